import Derived.Test.YtokjgegkhlkopaaGreatDoorLbX
set_option linter.unusedVariables false
set_option linter.unusedSimpArgs false
namespace Go.Proofs.YtokjgegkhlkopaaGreatDoor
set_option maxRecDepth 100000
set_option maxHeartbeats 16000000
structure N5 (p:ao) (q:bn) (m:Int) (z:az) (is:Bool) (e:Int):Prop where
 bad:ic p q m 2≠0->z=fF/\is=false/\e=ic p q m 2
 ok:ic p q m 2=0->GE p q (oB p m.toNat) z is e
def OW (P:az->Bool->Int->Prop):AV->Prop:=fun u=>∃z is e,u= .tup [.agg (b7 z), .bool is, .int .i64 e]/\P z is e
theorem sO (p:ao) (q:bn) (m:Int) (hp:¬b9 p) (hq:¬eU q)
  (hFL:∀z,fV p q z->q.kind=2->∃is e,LaQ p q z is e/\ae Tryz.prog 8 [.agg (bf p), .agg (eh q), .agg (b7 z)] (fun u=>u= .tup [.bool is, .int .i64 e])):
  ae Tryz.prog 14 [.agg (bf p), .agg (eh q), .int .i64 m] (OW (N5 p q m)):=by
 have he:=ic.eq_1 p q m 2
 refine ae.intro ab ac Tryz.func14 rfl (by decide) ?_;(conv=>whnf)
 refine am rfl ?_
 conv=>whnf
 refine am rfl ?_
 conv=>whnf
 (refine oP (ub p q (iO hp) (rG hq)) ?_;conv=>whnf)
 refine ah ?_ ?_<;>(intro h1;conv=>whnf)
 ·rw[if_pos h1] at he
  exact⟨⟨fF,false,cq p q,rfl,fun _=>⟨rfl,rfl,he.symm⟩,fun h=>by omega⟩,rfl⟩
 rw[if_neg h1] at he
 refine ah ?_ ?_<;>(intro h2;conv=>whnf)
 ·rw[if_pos h2] at he
  exact⟨⟨fF,false,1,rfl,fun _=>⟨rfl,rfl,he.symm⟩,fun h=>by omega⟩,rfl⟩
 rw[if_neg h2] at he
 refine ah ?_ ?_<;>(intro h3;conv=>whnf)
 ·rw[if_pos h3] at he
  exact⟨⟨fF,false,7,rfl,fun _=>⟨rfl,rfl,he.symm⟩,fun h=>by omega⟩,rfl⟩
 rw[if_neg h3] at he
 have g1:cq p q=0:=by omega
 have g3:q.kind=2:=by omega
 have fin:∀{z is e},GE p q (oB p m.toNat) z is e->N5 p q m z is e:=fun hB=>⟨fun h=>absurd he h,fun _=>hB⟩
 have hz:∀z∈oB p m.toNat,fV p q z:=fun z hz=>⟨hp,hq,F8 g1 (by omega) hz⟩
 (refine oP (K7 p m hp (uD g1) (by omega)) ?_;conv=>whnf)
 have hZl:=ow p m.toNat (by omega)
 have hZl:(oB p m.toNat).length<=1000:=by omega
 generalize oB p m.toNat=Z at fin hz hZl⊢
 refine aE.loopF ab ac (fun k:Nat=>k<=Z.length/\∀t is e,GE p q (Z.drop k) t is e->GE p q Z t is e) (fun k=>[(11, .int .i64 (k:Int))]) (fun _=>[(6,Js)]) (fun k=>Z.length-k) 0 ⟨Nat.zero_le _,fun t is e h=>h⟩ ?_;conv=>whnf
 refine⟨sI,?_⟩
 rintro k ⟨hk,hup⟩
 conv=>whnf
 refine ah ?_ ?_<;>(intro h4;conv=>whnf)
 ·have hlt:k<Z.length:=by omega
  have hd:=Gi hlt
  rw[hd] at hup
  have S:=hz _ (aG fF hlt)
  refine dI ?_
  conv=>whnf
  refine nI ?_
  rw[tN]
  conv=>whnf
  generalize hzz:Z.getD k fF=z at hup S⊢
  obtain⟨is,e,hB,hA⟩:=hFL z S g3
  cases is with
  |true=>
   by_cases he0:e=0
   ·subst he0
    (refine oC (hA) ?_;conv=>whnf)
    refine fI ?_
    conv=>whnf
    refine nI ?_
    rw[tN,hzz]
    conv=>whnf
    exact⟨⟨z,true,0,rfl,fin (hup _ _ _ ⟨true,0,hB, .inr (.inl ⟨rfl,rfl,rfl,rfl,rfl⟩)⟩)⟩,rfl⟩
   ·(refine oC (hA) ?_;conv=>whnf)
    refine dH he0 ?_
    conv=>whnf
    exact⟨⟨fF,false,e,rfl,fin (hup _ _ _ ⟨true,e,hB, .inl ⟨he0,rfl,rfl,rfl⟩⟩)⟩,rfl⟩
  |false=>
   by_cases he0:e=0
   ·subst he0
    (refine oC (hA) ?_;conv=>whnf)
    refine fI ?_
    conv=>whnf
    repeat' ((first|refine nI ?_|refine aI ?_|refine tI ?_|refine fI ?_|fail);conv=>whnf)
    exact⟨k+1,sI,⟨by omega,fun t is e h=>hup _ _ _ ⟨false,0,hB, .inr (.inr ⟨rfl,rfl,h⟩)⟩⟩,by dsimp only;omega⟩
   ·(refine oC (hA) ?_;conv=>whnf)
    refine dH he0 ?_
    conv=>whnf
    exact⟨⟨fF,false,e,rfl,fin (hup _ _ _ ⟨false,e,hB, .inl ⟨he0,rfl,rfl,rfl⟩⟩)⟩,rfl⟩
 ·refine⟨⟨fF,false,0,rfl,fin (hup _ _ _ ?_)⟩,rfl⟩
  rw[List.drop_of_length_le (by omega)]
  exact⟨rfl,rfl,rfl⟩
structure Lr (p:ao) (q:bn) (s:az) (is:Bool) (e:Int):Prop where
 bad:dB p q s≠0->is=false/\e=dB p q s
 kind:dB p q s=0->q.kind≠2->is=false/\e=7
 ok:dB p q s=0->q.kind=2->LaQ p q s is e
theorem Jr.oneT {p:ao} {q:bn} {s:az} {l:um} {is is':Bool} {e e':Int} (h:Jr p q s l is e) (k:Lr p q s is' e'):is=is'/\e=e':=by
 by_cases h0:dB p q s=0
 ·by_cases h1:q.kind=2
  ·exact(h.ok h0 h1).toLaQ.one (k.ok h0 h1)
  ·obtain⟨_,a,b⟩:=h.kind h0 h1
   obtain⟨c,d⟩:=k.kind h0 h1
   exact⟨by rw[a,c],by rw[b,d]⟩
 ·obtain⟨_,a,b⟩:=h.bad h0
  obtain⟨c,d⟩:=k.bad h0
  exact⟨by rw[a,c],by rw[b,d]⟩
theorem Jr.noT {p:ao} {q:bn} {s:az} {l:um} {e:Int} (h:Jr p q s l false e):l=m6:=by
 by_cases h0:dB p q s=0
 ·by_cases h1:q.kind=2
  ·exact(h.ok h0 h1).none rfl
  ·exact(h.kind h0 h1).1
 ·exact(h.bad h0).1
theorem Jr.yesT {p:ao} {q:bn} {s:az} {l:um} {e:Int} (h:Jr p q s l true e):te p q s (c8 q) l/\bc l.start=false/\l.pre.length<=4000/\l.loop.length<=100000000:=by
 by_cases h0:dB p q s=0
 ·by_cases h1:q.kind=2
  ·exact(h.ok h0 h1).yes rfl
  ·have:=(h.kind h0 h1).2.1;cases this
 ·have:=(h.bad h0).2.1;cases this
theorem Gp:an Tryz.prog 9 [.agg (bg aC), .agg (bg aC)] (ai.ofL []) (fun u _=>u= .int .i64 0):=an.of_pure (n:=5) (rl aC aC rfl) rfl fun u h=>by rw[h,l9]
theorem Gq (p:ao) (q:bn) (s:az)
  (hFL:¬b9 p->¬eU q->∃is e,Lr p q s is e/\ae Tryz.prog 8 [.agg (bf p), .agg (eh q), .agg (b7 s)] (fun u=>u= .tup [.bool is, .int .i64 e])):
  ae Tryz.prog 3 [.agg (AY p q s)] (fun u=>u= .bool true):=by
 refine ae.intro ab ac Tryz.func3 rfl (by decide) ?_;(conv=>whnf)
 refine am rfl ?_
 conv=>whnf
 refine dC (Fg p q s) (fun _=>?_) (fun _=>?_)<;>(conv=>whnf)
 ·(refine oP (kw) ?_;conv=>whnf)
  exact⟨rfl,rfl⟩
 rename_i hb
 have hp:¬b9 p:=fun h=>hb (.inl h)
 have hq:¬eU q:=fun h=>hb (.inr h)
 refine ah ?_ ?_<;>(intro h0;conv=>whnf)
 ·(refine oP (kw) ?_;conv=>whnf)
  exact⟨rfl,rfl⟩
 obtain⟨is',e',hB,hR⟩:=hFL hp hq
 refine an.of_pure (n:=5) (z2 p q s hp hq) rfl ?_
 rintro _ ⟨l,is,e,rfl,hA⟩
 obtain⟨rfl,rfl⟩:=hA.oneT hB
 conv=>whnf
 (refine oP (hR) ?_;conv=>whnf)
 refine eX (fun h=>h rfl) ?_
 cases is with
 |false=>
  have hl:=hA.noT
  subst hl
  conv=>whnf
  refine an.call [] [] 400 rfl trivial (aa) Gp ?_
  rintro u M rfl
  refine⟨[],[], .int .i64 0,rfl,trivial,rfl,?_⟩
  conv=>whnf
  refine dH rfl ?_
  conv=>whnf
  refine JC trivial (by decide) ?_
  conv=>whnf
  refine dH rfl ?_
  conv=>whnf
  (refine oP (kw) ?_;conv=>whnf)
  exact⟨rfl,rfl⟩
 |true=>
  obtain⟨h1,h2,h3,h4⟩:=hA.yesT
  have hV:=xX p q s l hp hq h2 (by omega) (by omega)
  rw[decide_eq_true h1] at hV
  conv=>whnf
  (refine oP (hV) ?_;conv=>whnf)
  (refine oP (kw) ?_;conv=>whnf)
  exact⟨rfl,rfl⟩
theorem Jt.oneT {p:ao} {q:bn} {m:Int} {z z':az} {l:um} {is is':Bool} {e e':Int} (h:Jt p q m z l is e) (k:N5 p q m z' is' e'):z=z'/\is=is'/\e=e':=by
 by_cases h0:ic p q m 2=0
 ·exact((h.ok h0).sq.1).one (k.ok h0)
 ·obtain⟨a1,_,a2,a3⟩:=h.bad h0
  obtain⟨b1,b2,b3⟩:=k.bad h0
  exact⟨by rw[a1,b1],by rw[a2,b2],by rw[a3,b3]⟩
theorem Jt.noT {p:ao} {q:bn} {m:Int} {z:az} {l:um} {e:Int} (h:Jt p q m z l false e):l=m6:=by
 by_cases h0:ic p q m 2=0
 ·exact(h.ok h0).sq.2.1 rfl
 ·exact(h.bad h0).2.1
theorem Jt.yesT {p:ao} {q:bn} {m:Int} {z:az} {l:um} {e:Int} (h:Jt p q m z l true e):te p q z (c8 q) l/\bc l.start=false/\l.pre.length<=4000/\l.loop.length<=100000000:=by
 by_cases h0:ic p q m 2=0
 ·obtain⟨is',e',hL,rfl⟩:=(h.ok h0).sq.2.2 rfl
  exact hL.yes rfl
 ·have:=(h.bad h0).2.2.1;cases this
theorem wb (p:ao) (q:bn) (m:Int)
  (hFL:¬b9 p->¬eU q->∀z,fV p q z->q.kind=2->∃is e,LaQ p q z is e/\ae Tryz.prog 8 [.agg (bf p), .agg (eh q), .agg (b7 z)] (fun u=>u= .tup [.bool is, .int .i64 e])):
  ae Tryz.prog 4 [.agg (bf p), .agg (eh q), .int .i64 m] (fun u=>u= .bool true):=by
 refine ae.intro ab ac Tryz.func4 rfl (by decide) ?_;(conv=>whnf)
 refine am rfl ?_
 conv=>whnf
 refine am rfl ?_
 conv=>whnf
 refine dC (Mg p) (fun _=>?_) (fun _=>?_)<;>(conv=>whnf)
 ·(refine oP (kw) ?_;conv=>whnf)
  exact⟨rfl,rfl⟩
 rename_i hp
 refine dC (I6 q) (fun _=>?_) (fun _=>?_)<;>(conv=>whnf)
 ·(refine oP (kw) ?_;conv=>whnf)
  exact⟨rfl,rfl⟩
 rename_i hq
 have H1:=sM p q m hp hq
 have H2:=sO p q m hp hq (hFL hp hq)
 by_cases hm:3<m/\m<=8
 ·refine dH hm.1 ?_
  conv=>whnf
  refine dH hm.2 ?_
  conv=>whnf
  (refine oP (kw) ?_;conv=>whnf)
  exact⟨rfl,rfl⟩
 refine ah ?_ ?_<;>(intro g1;conv=>whnf)
 all_goals try(refine eX (fun h=>hm ⟨g1,h⟩) ?_;conv=>whnf)
 all_goals
  refine an.of_pure (n:=5) H1 rfl ?_
  rintro _ ⟨z,l,is,e,rfl,hA⟩
  conv=>whnf
  refine an.of_pure (n:=5) H2 rfl ?_
  rintro _ ⟨z',is',e',rfl,hB⟩
  obtain⟨e1,e2,e3⟩:=hA.oneT hB
  subst e1
  subst e2
  subst e3
  cases is with
  |false=>
   have hl:=hA.noT
   subst hl
   conv=>whnf
   refine eX (fun h=>h rfl) ?_
   conv=>whnf
   refine eX (fun h=>h rfl) ?_
   conv=>whnf
   refine an.call [] [] 400 rfl trivial (aa) Gp ?_
   rintro u M rfl
   refine⟨[],[], .int .i64 0,rfl,trivial,rfl,?_⟩
   conv=>whnf
   refine dH rfl ?_
   conv=>whnf
   refine JC trivial (by decide) ?_
   conv=>whnf
   refine dH rfl ?_
   conv=>whnf
   (refine oP (kw) ?_;conv=>whnf)
   exact⟨rfl,rfl⟩
  |true=>
   obtain⟨h1,h2,h3,h4⟩:=hA.yesT
   have hV:=xX p q z l hp hq h2 (by omega) (by omega)
   rw[decide_eq_true h1] at hV
   conv=>whnf
   refine eX (fun h=>h rfl) ?_
   conv=>whnf
   refine eX (fun h=>h rfl) ?_
   conv=>whnf
   (refine oP (hV) ?_;conv=>whnf)
   (refine oP (kw) ?_;conv=>whnf)
   exact⟨rfl,rfl⟩
end Go.Proofs.YtokjgegkhlkopaaGreatDoor
