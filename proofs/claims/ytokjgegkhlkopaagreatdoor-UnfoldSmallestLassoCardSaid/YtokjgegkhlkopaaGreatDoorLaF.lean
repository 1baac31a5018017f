import Derived.Test.YtokjgegkhlkopaaGreatDoorLaEE
set_option linter.unusedVariables false
set_option linter.unusedSimpArgs false
namespace Go.Proofs.YtokjgegkhlkopaaGreatDoor
set_option maxRecDepth 100000
set_option maxHeartbeats 16000000
structure Nq where
 at_:Nat
 stp:Option gP
def v8:Nq:=⟨0,none⟩
def MW (o:Option gP):AV:=match o with
 |some e=>.pd (Im e)
 |none=>.val (.pointer none)
def C5 (g:Nq):List AV:=[.int .i64 (g.at_:Int),MW g.stp]
theorem js {l:List Nat} {k:Nat}:(bM l).getD k 0=((l.getD k 0:Nat):Int):=by
 unfold bM
 rw[gD,List.getElem?_map,gD]
 cases l[k]?<;>rfl
theorem yp {n i j:Nat} (hi:i<n) (hj:j<n) (f:Nat->Option Nat):(eW n f).getD i 0=(eW n f).getD j 0↔f i=f j:=by
 have key:∀k,k<n->(eW n f).getD k 0=(match f k with|some m=>(m:Int)|none=>-1):=fun k hk=>by
  rw[eW,gD,List.getElem?_map,List.getElem?_range hk];rfl
 rw[key i hi,key j hj]
 cases f i with
 |none=>
  cases f j with
  |none=>simp
  |some b=>constructor<;>intro h<;>first|omega|cases h
 |some a=>
  cases f j with
  |none=>constructor<;>intro h<;>first|omega|cases h
  |some b=>
   constructor
   ·intro h
    have h:(a:Int)=(b:Int):=h
    rw[show a=b by omega]
   ·intro h
    cases h
    rfl
section
variable {p:ao} {q:bn} {s:az} {y:iV} {es:List (List gP)} {t:TS}
def MX (p:ao) (s:az) (y:iV) (es:List (List gP)) (t:TS) (ms:List Nat) (k:Int×Int) (g:Nq):Prop:=
 g.at_∈ms/\match g.stp with
  |none=>¬xJ p s (bu y.1 g.at_).c k.1 k.2
  |some e=>e∈es.getD g.at_ []/\t.pt e.to.toNat=t.pt g.at_/\e.stp.rule=k.1/\e.stp.process=k.2
def Nr (p:ao) (s:az) (y:iV) (es:List (List gP)) (t:TS) (ms:List Nat) (k:Int×Int):Prop:=∀g,¬MX p s y es t ms k g
structure Lf (es:List (List gP)) (ms:List Nat):Prop where
 n:ms.length<=4000
 lt:∀x∈ms,x<es.length
theorem uC {ms:List Nat} {k:Nat} (h:k<ms.length):ms.getD k 0∈ms:=dX h
theorem Lg (h:yJ p q s y es t) (S:fV p q s) (ms:List Nat) (hms:Lf es ms) (k:Int×Int):
  ae Tryz.prog 90 [.pd (Nn p s y.1 es t), .sl 0 aD (bM ms), .agg (HT k)] (fun u=>(∃g,MX p s y es t ms k g/\u= .tup [.agg (C5 g), .bool true])\/(Nr p s y es t ms k/\u= .tup [.agg (C5 v8), .bool false])):=by
 have hn:=hms.n
 have hl:=h.l
 have hes:=h.ok
 have hrd:=fun i (hi:i<y.1.length)=>h.x.se.og.rdy S hi
 obtain⟨k1,k2⟩:=k
 refine ae.intro ab ac Tryz.func90 rfl (by decide) ?_;(conv=>whnf)
 refine am rfl ?_
 conv=>whnf
 refine aE.loopF ab ac (fun j:Nat=>j<=ms.length/\∀i,i<j->xJ p s (bu y.1 (ms.getD i 0)).c k1 k2) (fun j=>[(16, .int .i64 (j:Int))]) (fun _=>[(6, .box 113 [.int .i64 0, .val (.pointer none)])]) (fun j=>ms.length-j) 0 ⟨Nat.zero_le _,fun i hi=>absurd hi (Nat.not_lt_zero _)⟩ ?_;conv=>whnf
 refine⟨aM.by_ [(6, .old 6)] _ 400 rfl (aa) (aa),?_⟩
 rintro j ⟨hj,hf⟩
 have hll:=eL ms
 conv=>whnf
 refine ah ?_ ?_<;>(intro g1;conv=>whnf)
 ·have hjl:j<ms.length:=by omega
  have hmem:=uC hjl
  obtain⟨i,hi⟩:∃i,ms.getD j 0=i:=⟨_,rfl⟩
  rw[hi] at hmem
  have hin:=hms.lt i hmem
  have hat:(bM ms).getD j 0=(i:Int):=by rw[js,hi]
  have hr:=hrd i (by omega)
  obtain⟨o,ho⟩:∃o,bu y.1 i=o:=⟨_,rfl⟩
  have ho':y.1.getD i d6=o:=ho
  rw[ho] at hr
  refine nI ?_
  rw[tN]
  rw[hat]
  conv=>whnf
  refine dI ?_
  conv=>whnf
  refine nI ?_
  rw[tN]
  rw[ho']
  conv=>whnf
  (refine oC (Km p s o.c hr.wide) ?_;conv=>whnf)
  refine dD (HF p s o.c k1 k2 hr) (fun _=>?_) (fun _=>?_)<;>(conv=>whnf)
  ·rename_i hfc
   repeat' ((first|refine nI ?_|refine aI ?_|refine tI ?_|refine fI ?_|fail);conv=>whnf)
   refine⟨j+1,aM.by_ [(6, .old 6)] _ 400 rfl (aa) (aa),⟨by omega,fun m hm=>?_⟩,by dsimp only;omega⟩
   by_cases e:m=j
   ·subst e;rw[hi,ho];exact hfc
   ·exact hf m (by omega)
  ·rename_i hfc
   refine⟨.inl ⟨⟨i,none⟩,⟨hmem,?_⟩,rfl⟩,rfl⟩
   show¬xJ p s (bu y.1 i).c k1 k2
   rw[ho];exact hfc
 obtain rfl:j=ms.length:=by omega
 refine aE.loopF ab ac (fun j:Nat=>j<=ms.length/\∀i,i<j->∀e∈es.getD (ms.getD i 0) [],¬(t.pt e.to.toNat=t.pt (ms.getD i 0)/\e.stp.rule=k1/\e.stp.process=k2)) (fun j=>[(57, .int .i64 (j:Int))]) (fun _=>[(6, .box 113 [.int .i64 0, .val (.pointer none)])]) (fun j=>ms.length-j) 0 ⟨Nat.zero_le _,fun i hi=>absurd hi (Nat.not_lt_zero _)⟩ ?_;conv=>whnf
 refine⟨aM.by_ [(6, .old 6)] _ 400 rfl (aa) (aa),?_⟩
 rintro j ⟨hj2,hf2⟩
 conv=>whnf
 refine ah ?_ ?_<;>(intro g2;conv=>whnf)
 ·have hjl:j<ms.length:=by omega
  have hmem:=uC hjl
  obtain⟨i,hi⟩:∃i,ms.getD j 0=i:=⟨_,rfl⟩
  rw[hi] at hmem
  have hin:=hms.lt i hmem
  have hat:(bM ms).getD j 0=(i:Int):=by rw[js,hi]
  have hdl:=hes.l i
  have hei:=hes.e i
  refine nI ?_
  rw[tN]
  rw[hat]
  conv=>whnf
  refine nI ?_
  rw[tN]
  conv=>whnf
  refine aE.loopF ab ac (fun m:Nat=>m<=(es.getD i []).length/\∀x,x<m->¬(t.pt ((es.getD i []).getD x gW).to.toNat=t.pt i/\((es.getD i []).getD x gW).stp.rule=k1/\((es.getD i []).getD x gW).stp.process=k2)) (fun m=>[(69, .int .i64 (m:Int))]) (fun _=>[(6, .box 113 [.int .i64 0, .val (.pointer none)])]) (fun m=>(es.getD i []).length-m) 0 ⟨Nat.zero_le _,fun x hx=>absurd hx (Nat.not_lt_zero _)⟩ ?_;conv=>whnf
  refine⟨aM.by_ [(6, .old 6)] _ 400 rfl (aa) (aa),?_⟩
  rintro m ⟨hm,hf3⟩
  conv=>whnf
  refine ah ?_ ?_<;>(intro g3;conv=>whnf)
  ·have hml:m<(es.getD i []).length:=by omega
   obtain⟨z,x,hyx,hyn⟩:∃(z:Nat) (x:aQ),(es.getD i []).getD m gW=⟨(z:Int),x⟩/\z<es.length:=by
    obtain⟨z,h1,h2⟩:=hei _ (aG gW hml)
    refine⟨z,((es.getD i []).getD m gW).stp,?_,h2⟩
    rw[<-h1]
   have hme:(⟨(z:Int),x⟩:gP)∈es.getD i []:=by rw[<-hyx];exact aG gW hml
   have hpi:=yp hyn hin t.pt
   have hpl:=sy es.length t.pt
   have next:¬(t.pt z=t.pt i/\x.rule=k1/\x.process=k2)->∀a,a<m+1->¬(t.pt ((es.getD i []).getD a gW).to.toNat=t.pt i/\((es.getD i []).getD a gW).stp.rule=k1/\((es.getD i []).getD a gW).stp.process=k2):=by
    intro hno a ha
    by_cases e:a=m
    ·subst e;rw[hyx];exact hno
    ·exact hf3 a (by omega)
   refine nI ?_
   rw[tN]
   conv=>whnf
   refine nI ?_
   rw[tN]
   rw[hyx]
   conv=>whnf
   refine dI ?_
   conv=>whnf
   refine nI ?_
   rw[tN]
   conv=>whnf
   refine nI ?_
   rw[tN]
   conv=>whnf
   refine ah ?_ ?_<;>(intro g4;conv=>whnf)
   ·refine ah ?_ ?_<;>(intro g5;conv=>whnf)
    ·refine ah ?_ ?_<;>(intro g6;conv=>whnf)
     ·exact⟨.inl ⟨⟨i,some ⟨(z:Int),x⟩⟩,⟨hmem,hme,hpi.1 g4,g5,g6⟩,rfl⟩,rfl⟩
     ·repeat' ((first|refine nI ?_|refine aI ?_|refine tI ?_|refine fI ?_|fail);conv=>whnf)
      exact⟨m+1,aM.by_ [(6, .old 6)] _ 400 rfl (aa) (aa),⟨by omega,next fun h=>g6 h.2.2⟩,by dsimp only;omega⟩
    ·repeat' ((first|refine nI ?_|refine aI ?_|refine tI ?_|refine fI ?_|fail);conv=>whnf)
     exact⟨m+1,aM.by_ [(6, .old 6)] _ 400 rfl (aa) (aa),⟨by omega,next fun h=>g5 h.2.1⟩,by dsimp only;omega⟩
   ·repeat' ((first|refine nI ?_|refine aI ?_|refine tI ?_|refine fI ?_|fail);conv=>whnf)
    exact⟨m+1,aM.by_ [(6, .old 6)] _ 400 rfl (aa) (aa),⟨by omega,next fun h=>g4 (hpi.2 h.1)⟩,by dsimp only;omega⟩
  ·obtain rfl:m=(es.getD i []).length:=by omega
   repeat' ((first|refine nI ?_|refine aI ?_|refine tI ?_|refine fI ?_|fail);conv=>whnf)
   refine⟨j+1,aM.by_ [(6, .old 6)] _ 400 rfl (aa) (aa),⟨by omega,fun a ha e he=>?_⟩,by dsimp only;omega⟩
   by_cases e2:a=j
   ·subst e2
    rw[hi] at he⊢
    obtain⟨x,hx,rfl⟩:=bp gW he
    exact hf3 x hx
   ·exact hf2 a (by omega) e he
 obtain rfl:j=ms.length:=by omega
 refine⟨.inr ⟨fun g hg=>?_,rfl⟩,rfl⟩
 obtain⟨gi,gs⟩:=g
 obtain⟨hg1,hg2⟩:=hg
 have hg1:gi∈ms:=hg1
 obtain⟨a,ha,rfl⟩:=j8 hg1
 cases gs with
 |none=>exact hg2 (hf a ha)
 |some e=>
  obtain⟨e1,e2⟩:=hg2
  exact hf2 a ha e e1 e2
theorem C6 (h:yJ p q s y es t) (S:fV p q s) (ms:List Nat) (hms:Lf es ms):
  ae Tryz.prog 43 [.pd (Nn p s y.1 es t), .sl 0 aD (bM ms)] (fun u=>
   (∃gs,gs.length=(lL (s.n-s.f).toNat p.rules.length).length/\(∀j,j<gs.length->MX p s y es t ms ((lL (s.n-s.f).toNat p.rules.length).getD j (0,0)) (gs.getD j v8))/\u= .tup [.sl v8 C5 gs, .bool true])\/
   ((∃k∈lL (s.n-s.f).toNat p.rules.length,Nr p s y es t ms k)/\u= .tup [.nilsl, .bool false])):=by
 have hsz:(1<=s.n/\s.n<=8)/\(0<=s.f/\s.f<=s.n):=by
  have h2:=dM S.siz.2
  omega
 have hle:=aF S.hp
 have hkl:(lL (s.n-s.f).toNat p.rules.length).length<=8000:=by
  rw[qi]
  have:=Nat.mul_le_mul (show p.rules.length<=1000 by omega) (show(s.n-s.f).toNat<=8 by omega)
  omega
 have hP:=KH p s S.hp hsz
 generalize lL (s.n-s.f).toNat p.rules.length=ks at hP hkl⊢
 refine ae.intro ab ac Tryz.func43 rfl (by decide) ?_;(conv=>whnf)
 refine dI ?_
 conv=>whnf
 (refine oC (hP) ?_;conv=>whnf)
 refine aE.loopF ab ac (fun z:Nat×List Nq=>z.1<=ks.length/\z.2.length=z.1/\∀j,j<z.2.length->MX p s y es t ms (ks.getD j (0,0)) (z.2.getD j v8)) (fun z=>[(6, .row 1000 z.2.length 2),(27, .int .i64 (z.1:Int))]) (fun z=>[(1000, .row 113 v8 C5 z.2)]) (fun z=>ks.length-z.1) (0,[]) ⟨Nat.zero_le _,rfl,fun j hj=>absurd hj (Nat.not_lt_zero _)⟩ ?_;conv=>whnf
 refine⟨aM.by_ [(1000, .nil 2)] _ 400 rfl (aa) (aa),?_⟩
 rintro⟨k,gs⟩ ⟨hk,hgl,hg⟩
 dsimp only at hk hgl hg⊢
 conv=>whnf
 refine ah ?_ ?_<;>(intro g1;conv=>whnf)
 ·have hlt:k<ks.length:=by omega
  refine nI ?_
  rw[tN]
  conv=>whnf
  refine an.of_pure (n:=5) (Lg h S ms hms (ks.getD k (0,0))) rfl ?_
  rintro _ (⟨g,hs,rfl⟩|⟨hno,rfl⟩)
  ·have next:∀j,j<(gs++[g]).length->MX p s y es t ms (ks.getD j (0,0)) ((gs++[g]).getD j v8):=by
    intro j hj
    rw[List.length_append,List.length_singleton] at hj
    rw[cY]
    by_cases e:j<gs.length
    ·rw[if_pos e];exact hg j e
    ·obtain rfl:j=gs.length:=by omega
     rw[if_neg e,if_pos rfl,hgl];exact hs
   obtain⟨gi,gz⟩:=g
   cases gz with
   |none=>
    conv=>whnf
    refine cA v8 C5 [⟨gi,none⟩] rfl ?_
    conv=>whnf
    refine cB [⟨gi,none⟩] rfl lI ?_
    conv=>whnf
    repeat' ((first|refine nI ?_|refine aI ?_|refine tI ?_|refine fI ?_|fail);conv=>whnf)
    refine⟨(k+1,gs++[⟨gi,none⟩]),?_,⟨by dsimp only;omega,by dsimp only;rw[List.length_append,hgl];rfl,next⟩,by dsimp only;omega⟩
    exact aM.by_ [(1000, .old 43)] _ 400 rfl (aa) (aa)
   |some e=>
    conv=>whnf
    refine cA v8 C5 [⟨gi,some e⟩] rfl ?_
    conv=>whnf
    refine cB [⟨gi,some e⟩] rfl lI ?_
    conv=>whnf
    repeat' ((first|refine nI ?_|refine aI ?_|refine tI ?_|refine fI ?_|fail);conv=>whnf)
    refine⟨(k+1,gs++[⟨gi,some e⟩]),?_,⟨by dsimp only;omega,by dsimp only;rw[List.length_append,hgl];rfl,next⟩,by dsimp only;omega⟩
    exact aM.by_ [(1000, .old 43)] _ 400 rfl (aa) (aa)
  ·conv=>whnf
   exact⟨.inr ⟨⟨_,aG (0,0) hlt,hno⟩,rfl⟩,rfl⟩
 ·obtain rfl:k=ks.length:=by omega
  exact⟨.inl ⟨gs,hgl,hg,rfl⟩,rfl⟩
end
end Go.Proofs.YtokjgegkhlkopaaGreatDoor
