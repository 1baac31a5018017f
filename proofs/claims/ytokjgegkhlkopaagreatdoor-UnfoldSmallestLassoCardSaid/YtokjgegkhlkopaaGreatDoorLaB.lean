import Derived.Test.YtokjgegkhlkopaaGreatDoorLaA
import Derived.Test.YtokjgegkhlkopaaGreatDoorLA
import Derived.Test.YtokjgegkhlkopaaGreatDoorXQ
set_option linter.unusedVariables false
set_option linter.unusedSimpArgs false
namespace Go.Proofs.YtokjgegkhlkopaaGreatDoor
set_option maxRecDepth 100000
set_option maxHeartbeats 16000000
theorem On {A B:Prop} (k:A->B) (h:A):B:=k h
theorem Oo {A1 A2 A3 A4 A5 A6 B:Prop} (k:A1->A2->A3->A4->A5->A6->B) (h1:A1) (h2:A2) (h3:A3) (h4:A4) (h5:A5) (h6:A6):B:=k h1 h2 h3 h4 h5 h6
def tm (s:TS):Prop:=s.inn.length+s.st.length<=s.ct
theorem uA (i:Nat):∀{l:List Nat},l≠[]->(lR i l).length+1<=l.length
 |[],h=>absurd rfl h
 |x::l,_=>by
  rw[lR]
  split
  ·exact Nat.le_refl _
  ·cases l with
   |nil=>simp[lR]
   |cons z l=>
    have:=uA i (l:=z::l) (by simp)
    simp only[List.length_cons] at this⊢
    omega
theorem tm.lea {i:Nat} {s:TS} (h:tm s) (hs:s.st≠[]):tm (dG i s):=by
 unfold dG
 split
 ·have:=uA i hs
  unfold tm at h⊢
  show(s.inn++[pc i s.st]).length+(lR i s.st).length<=s.ct
  rw[List.length_append,List.length_singleton]
  omega
 ·exact h
theorem Tj.cnt {E:Nat->List Nat} {i ys s t} (h:Tj E i ys s t):∀{S M ds rs},E i=ds++(ys++rs)->mn E i S M ds s->tm s->tm t:=by
 induction h with
 |nil=>exact fun _ _ h=>h
 |@white i y ys s s1 s3 hw h1 _ ih1 ih2=>
  intro S M ds rs hE hL hC
  have c1:=ih1 (ds:=[]) (rs:=[]) (by simp) (mn.enter hL.g hw) (by
   unfold tm at hC⊢
   show s.inn.length+(y::s.st).length<=s.ct+1
   rw[List.length_cons];omega)
  obtain⟨⟨N,hN⟩,_⟩:=h1.goodR (ds:=[]) (rs:=[]) (by simp) (mn.enter hL.g hw)
  have c2:tm (dG y s1):=c1.lea (by rw[hN.st];simp)
  obtain⟨⟨M',hM'⟩,_⟩:=(Tj.white hw h1 .nil).goodR (rs:=ys++rs) hE hL
  exact ih2 (rs:=rs) (by rw[hE];simp) hM' c2
 |@stack i y ys s s3 hy hp _ ih=>
  intro S M ds rs hE hL hC
  obtain⟨⟨M',hM'⟩,_⟩:=(Tj.stack hy hp .nil).goodR (rs:=ys++rs) hE hL
  exact ih (rs:=rs) (by rw[hE];simp) hM' hC
 |@part i y ys s s3 hy hp _ ih=>
  intro S M ds rs hE hL hC
  obtain⟨⟨M',hM'⟩,_⟩:=(Tj.part hy hp .nil).goodR (rs:=ys++rs) hE hL
  exact ih (rs:=rs) (by rw[hE];simp) hM' hC
structure MT (E:Nat->List Nat) (n:Nat) (s:TS):Prop where
 g:F1 E s
 nm:Bn n s
 cn:tm s
theorem MT.mid {E:Nat->List Nat} {n i:Nat} {s t:TS} (h:MT E n s) (hE:∀x,∀y∈E x,y<n) (hi:i<n) (h0:s.ix i=0) {k:Nat} (r:Tj E i ((E i).take k) (gq i s) t):
  (∃M,mn E i s.st M ((E i).take k) t)/\MT E n t/\(Bm n t).length+1<=(Bm n s).length:=by
 have e:E i=[]++((E i).take k++(E i).drop k):=by rw[List.take_append_drop];rfl
 have hL:=mn.enter h.g h0
 have hC:tm (gq i s):=by
  have:=h.cn
  unfold tm at this⊢
  show s.inn.length+(i::s.st).length<=s.ct+1
  rw[List.length_cons];omega
 obtain⟨⟨M,hM⟩,_⟩:=r.goodR e hL
 obtain⟨a,_,b⟩:=r.num hE (fun y hy=>hE i y (List.mem_of_mem_take hy)) (h.nm.ent hi h0)
 have:=v5 hi h0
 exact⟨⟨M,hM⟩,⟨hM.g,a,r.cnt e hL hC⟩,by omega⟩
def Im (e:gP):List AV:=[.int .i64 e.to, .int .i64 e.stp.rule, .int .i64 e.stp.process, .int .i64 e.stp.partner]
def pM (l:List gP):List AV:=[.sl gW Im l]
def ph (es:List (List gP)) (i:Nat):List Nat:=(es.getD i []).map fun e=>e.to.toNat
structure zZ (es:List (List gP)):Prop where
 n:es.length<=4000
 l:∀i,(es.getD i []).length<=1000000
 e:∀i,∀e∈es.getD i [],∃j:Nat,e.to=(j:Int)/\j<es.length
theorem zZ.lt {es:List (List gP)} (h:zZ es):∀x,∀y∈ph es x,y<es.length:=fun x y hy=>by
 obtain⟨e,he,rfl⟩:=List.mem_map.1 hy
 obtain⟨j,e1,hj⟩:=h.e x e he
 rw[e1]
 exact hj
theorem K8 {es:List (List gP)} {i k:Nat} (hk:k<(es.getD i []).length) {y:Nat} {x:aQ} (h:(es.getD i []).getD k gW=⟨(y:Int),x⟩):(ph es i).take (k+1)=(ph es i).take k++[y]:=by
 have e1:(es.getD i []).getD k gW=(es.getD i [])[k]:=by rw[gD,gL hk];rfl
 unfold ph
 rw[List.take_succ_eq_append_getElem (by rw[List.length_map];exact hk),List.getElem_map,<-e1,h]
 rfl
def ON:AV:=.fn 126 [.ptr 200 0, .ptr 201 0, .ptr 202 0, .ptr 203 0, .ptr 204 0, .ptr 205 0]
def Io (xc:List AV) (es:List (List gP)) (ct:Nat) (ix lo:Nat->Nat) (pt:Nat->Option Nat) (st:List Nat) (inn:List (List Nat)) (a b:Nat):List (Nat×aX):=
 [(200, .box 3 [.int .i64 (ct:Int)]),(201, .box 24 [.row 211 es.length 1]),(202, .box 24 [.row 212 es.length 1]),(203, .box 24 [.row a st.length 1]),
  (204, .box 101 [.ptr 210 0]),(205, .box 75 [ON]),(210, .box 107 [.pd xc, .sl [] pM es, .row 214 es.length 1, .row b inn.length 1]),
  (211,bG (kV es.length ix)),(212,bG (kV es.length lo)),(214,bG (eW es.length pt)),(a,bG (bM st.reverse)),(b,cJ (inn.map bM))]
def Jn (xc:List AV) (es:List (List gP)) (s:TS) (a b:Nat):List (Nat×aX):=Io xc es s.ct s.ix s.lo s.pt s.st s.inn a b
def Nl (xc:List AV) (es:List (List gP)) (s:TS):List (Nat×aX):=Jn xc es s 213 215
def GF (xc:List AV) (es:List (List gP)) (s:TS):List (Nat×aX):=(213, .dead)::(215, .dead)::Jn xc es s 223 225
def Oq (xc:List AV) (es:List (List gP)) (s:TS):List (Nat×aX):=(223, .dead)::(225, .dead)::Jn xc es s 233 235
def K9:b8:=[(200, .old 200),(201, .old 201),(202, .old 202),(203, .old 203),(204, .old 204),(205, .old 205),(210, .old 210),(211, .old 211),(212, .old 212),(214, .old 214)]
def Jo (a b:Nat):b8:=[(213, .old 213),(215, .old 215),(223, .old a),(225, .old b)]++K9
theorem Bs {n i v:Nat} (f:Nat->Nat) {a b:Int} (ha:a=(f i:Int)) (hb:b=(v:Int)):(kV n f).set i (if b<a then b else a)=kV n (cQ f i (min (f i) v)):=by
 have e:(if b<a then b else a)=((min (f i) v:Nat):Int):=by
  rw[ha,hb]
  split<;>omega
 rw[e,sx]
theorem eL (l:List Nat):(bM l).length=l.length:=by simp[bM]
def GG (s:TS) (A:List Nat):Nat->Option Nat:=fun x=>if x∈A then some s.inn.length else s.pt x
theorem Ip (s:TS):GG s []=s.pt:=by funext x;simp[GG]
theorem La (s:TS) (A:List Nat) (j:Nat):GG s (A++[j])=cQ (GG s A) j (some s.inn.length):=by
 funext x
 unfold GG cQ
 by_cases h1:x=j
 ·simp[h1]
 ·simp[h1]
def NQ (xc:List AV) (es:List (List gP)) (s:TS) (A R:List Nat):List (Nat×aX):=
 (1000,bG (bM A))::(213, .dead)::(215, .dead)::(223, .dead)::Io xc es s.ct s.ix s.lo (GG s A) R s.inn 233 225
theorem Iq {i:Nat} {s:TS} {A R:List Nat} (h:s.st=A++i::R) (hA:i∉A) (hl:s.lo i=s.ix i):dG i s={s with st:=R,pt:=GG s (A++[i]),inn:=s.inn++[A++[i]]}:=by
 unfold dG
 rw[if_pos hl]
 unfold pQ GG
 rw[h,(ql hA).1,(ql hA).2]
def NR (xc:List AV) (es:List (List gP)) (m:Nat):Prop:=∀(i:Nat) (s:TS),i<es.length->s.ix i=0->MT (ph es) es.length s->(Bm es.length s).length<=m->
 an Tryz.prog 126 [.int .i64 (i:Int), .ptr 200 0, .ptr 201 0, .ptr 202 0, .ptr 203 0, .ptr 204 0, .ptr 205 0] (ai.ofL (Nl xc es s))
  (fun u M=>u= .tup []/\∃t,Tj (ph es) i (ph es i) (gq i s) t/\M=ai.ofL (GF xc es (dG i t)))
theorem Ot (xc:List AV) (es:List (List gP)) (hes:zZ es) (m:Nat) (ih:0<m->NR xc es (m-1)):NR xc es m:=by
 intro i s hi h0 hV hm
 have hn:=hes.n
 have hE:=hes.lt
 have hct:=hV.nm.ct
 have hcn:=hV.cn
 unfold tm at hcn
 have hw1:=v5 hi h0
 refine an.renorm 400 (R:=fun u M=>u= .tup []/\∃t,Tj (ph es) i (ph es i) (gq i s) t/\(dK (Jo 223 225) 400 M (GF xc es (dG i t))\/dK (Jo 103 129) 400 M (GF xc es (dG i t)))) ?_ ?_
 case refine_2=>
  rintro u M' ⟨rfl,t,h1,h2|h2⟩
  ·exact⟨_,_, .tup [],rfl,h2,trivial,rfl,t,h1,rfl⟩
  ·exact⟨_,_, .tup [],rfl,h2,trivial,rfl,t,h1,rfl⟩
 refine an.introW ab (Nl xc es s) Tryz.func126 rfl (by decide) ?_
 dsimp only[mv,List.append,List.length,Nat.sub]
 refine aE.seqC ab ac ?_
 conv=>whnf
 refine aI ?_
 conv=>whnf
 refine aE.seqC ab ac ?_
 conv=>whnf
 refine dR ?_
 conv=>whnf
 refine nI ?_
 rw[tN]
 conv=>whnf
 refine ak _ rfl ?_
 conv=>whnf
 refine nI ?_
 rw[tN]
 conv=>whnf
 refine ak _ rfl ?_
 conv=>whnf
 refine aZ ab ac _ _ _ _ ?_
 conv=>whnf
 refine cB [(i:Int)] rfl (by rw[eL,List.length_reverse];simp only[List.length_cons,List.length_nil];omega) ?_
 conv=>whnf
 refine nI ?_
 rw[tN]
 conv=>whnf
 have hdl:=hes.l i
 have hei:=hes.e i
 refine aE.loopF ab ac (fun z:Nat×TS=>z.1<=(es.getD i []).length/\Tj (ph es) i ((ph es i).take z.1) (gq i s) z.2) (fun z=>[(9, .top),(24, .top),(25, .top),(34, .int .i64 (z.1:Int))]) (fun z=>GF xc es z.2) (fun z=>(es.getD i []).length-z.1) (0,gq i s) ⟨Nat.zero_le _,by rw[List.take_zero];exact .nil⟩ ?_;conv=>whnf
 refine⟨?_,?_⟩
 ·dsimp only
  have e1:kV es.length (gq i s).ix=(kV es.length s.ix).set i ((s.ct:Int)+1):=by
   rw[show((s.ct:Int)+1)=((s.ct+1:Nat):Int) by omega,sx];rfl
  have e2:kV es.length (gq i s).lo=(kV es.length s.lo).set i ((s.ct:Int)+1):=by
   rw[show((s.ct:Int)+1)=((s.ct+1:Nat):Int) by omega,sx];rfl
  have e3:bM (gq i s).st.reverse=bM s.st.reverse++[(i:Int)]:=by
   show bM (i::s.st).reverse=_
   rw[List.reverse_cons];simp[bM]
  unfold GF Jn Io
  rw[e1,e2,e3]
  exact aM.by_ (Jo 25 215) _ 400 rfl (aa) (aa)
 rintro⟨k,s1⟩ ⟨hk,hr⟩
 dsimp only at hk hr⊢
 obtain⟨⟨M0,hL⟩,hV1,hw2⟩:=hV.mid hE hi h0 hr
 have hct1:=hV1.nm.ct
 have hcn1:=hV1.cn
 unfold tm at hcn1
 conv=>whnf
 refine ah ?_ ?_<;>(intro g1;conv=>whnf)
 ·have hkl:k<(es.getD i []).length:=by omega
  refine nI ?_
  rw[tN]
  obtain⟨y,x,hyx,hyn⟩:∃(y:Nat) (x:aQ),(es.getD i []).getD k gW=⟨(y:Int),x⟩/\y<es.length:=by
   obtain⟨y,h1,h2⟩:=hei _ (aG gW hkl)
   refine⟨y,((es.getD i []).getD k gW).stp,?_,h2⟩
   rw[<-h1]
  have hup:=K8 hkl hyx
  rw[hyx]
  conv=>whnf
  refine nI ?_
  rw[tN]
  conv=>whnf
  have hix:=il hyn s1.ix
  have hli:=il hi s1.lo
  refine ah ?_ ?_<;>(intro g2;conv=>whnf)
  ·have hwy:s1.ix y=0:=by omega
   refine an.call ([(213, .old 223),(215, .old 225)]++K9) (Nl xc es s1) 400 rfl (aa) (aa) (ih (by omega) y s1 hyn hwy hV1 (by omega)) ?_
   rintro u M' ⟨rfl,t,hT,rfl⟩
   refine⟨[(223, .old 213),(225, .old 215),(233, .old 223),(235, .old 225)]++K9,Oq xc es (dG y t), .tup [],rfl,(aa),trivial,?_⟩
   have hstep:Tj (ph es) i ((ph es i).take (k+1)) (gq i s) (oq i ((dG y t).lo y) (dG y t)):=by
    rw[hup];exact hr.app (.white hwy hT .nil)
   generalize dG y t=t2 at hstep⊢
   conv=>whnf
   refine dI ?_
   conv=>whnf
   refine nI ?_
   rw[tN]
   conv=>whnf
   refine nI ?_
   rw[tN]
   conv=>whnf
   refine nI ?_
   rw[tN]
   conv=>whnf
   refine ak _ rfl ?_
   conv=>whnf
   repeat' ((first|refine nI ?_|refine aI ?_|refine tI ?_|refine fI ?_|fail);conv=>whnf)
   refine⟨(k+1,oq i (t2.lo y) t2),?_,⟨by dsimp only;omega,hstep⟩,by dsimp only;omega⟩
   dsimp only
   have e1:kV es.length (oq i (t2.lo y) t2).lo=_:=(Bs t2.lo (il hi t2.lo) (il hyn t2.lo)).symm
   unfold GF Jn Io
   rw[e1]
   exact aM.by_ (Jo 233 235) _ 400 rfl (aa) (aa)
  ·have hwy:s1.ix y≠0:=by omega
   refine dI ?_
   conv=>whnf
   refine nI ?_
   rw[tN]
   conv=>whnf
   have hpt:=Ik hyn s1.pt
   refine ah ?_ ?_<;>(intro g3;conv=>whnf)
   ·have hstep:Tj (ph es) i ((ph es i).take (k+1)) (gq i s) (oq i (s1.ix y) s1):=by
     rw[hup];exact hr.app (.stack hwy (hpt.1 g3) .nil)
    refine dI ?_
    conv=>whnf
    refine nI ?_
    rw[tN]
    conv=>whnf
    refine nI ?_
    rw[tN]
    conv=>whnf
    refine nI ?_
    rw[tN]
    conv=>whnf
    refine ak _ rfl ?_
    conv=>whnf
    repeat' ((first|refine nI ?_|refine aI ?_|refine tI ?_|refine fI ?_|fail);conv=>whnf)
    refine⟨(k+1,oq i (s1.ix y) s1),?_,⟨by dsimp only;omega,hstep⟩,by dsimp only;omega⟩
    dsimp only
    have e1:kV es.length (oq i (s1.ix y) s1).lo=_:=(Bs s1.lo (il hi s1.lo) (il hyn s1.ix)).symm
    unfold GF Jn Io
    rw[e1]
    exact aM.by_ (Jo 223 225) _ 400 rfl (aa) (aa)
   ·have hstep:Tj (ph es) i ((ph es i).take (k+1)) (gq i s) s1:=by
     rw[hup];exact hr.app (.part hwy (fun h=>g3 (hpt.2 h)) .nil)
    repeat' ((first|refine nI ?_|refine aI ?_|refine tI ?_|refine fI ?_|fail);conv=>whnf)
    refine⟨(k+1,s1),?_,⟨by dsimp only;omega,hstep⟩,by dsimp only;omega⟩
    exact aM.by_ (Jo 223 225) _ 400 rfl (aa) (aa)
 obtain rfl:k=(es.getD i []).length:=by omega
 have hfull:Tj (ph es) i (ph es i) (gq i s) s1:=by
  have e:(ph es i).take (es.getD i []).length=ph es i:=List.take_of_length_le (by unfold ph;rw[List.length_map];exact Nat.le_refl _)
  rw[e] at hr
  exact hr
 have hli:=il hi s1.lo
 have hix:=il hi s1.ix
 refine dI ?_
 conv=>whnf
 refine nI ?_
 rw[tN]
 conv=>whnf
 refine nI ?_
 rw[tN]
 conv=>whnf
 refine ah ?_ ?_<;>(intro g2;conv=>whnf)
 ·have hne:s1.lo i≠s1.ix i:=by omega
  refine⟨rfl,s1,hfull, .inl ?_⟩
  have e:dG i s1=s1:=if_neg hne
  rw[e]
  exact(aa)
 have heq:s1.lo i=s1.ix i:=by omega
 have hiM:=hL.iM
 have hst:=hL.st
 have hle:s1.st.length<=4000:=by omega
 have hlt:∀x∈s1.st,x<es.length:=hV1.nm.st
 refine aE.loopF ab ac (fun z:List Nat×List Nat=>s1.st=z.1++z.2/\i∉z.1/\i∈z.2) (fun z=>[(10, .row 1000 z.1.length 1)]) (fun z=>NQ xc es s1 z.1 z.2) (fun z=>z.2.length) ([],s1.st) ⟨rfl,by simp,by rw[hst];simp⟩ ?_;conv=>whnf
 refine⟨?_,?_⟩
 ·unfold NQ Io
  dsimp only
  rw[Ip]
  exact aM.by_ ([(1000, .nil 1),(213, .old 213),(215, .old 215),(223, .old 223),(233, .old 223),(225, .old 225)]++K9) _ 400 rfl (aa) (aa)
 rintro⟨A,R⟩ ⟨h1,h2,h3⟩
 dsimp only at h1 h2 h3⊢
 obtain⟨j,R',rfl⟩:∃j R',R=j::R':=by
  cases R with
  |nil=>cases h3
  |cons j R'=>exact⟨j,R',rfl⟩
 have hjn:j<es.length:=hlt j (by rw[h1];simp)
 have hlen:A.length+R'.length+1<=4000:=by rw[h1,List.length_append,List.length_cons] at hle;omega
 have hrev:bM (j::R').reverse=bM R'.reverse++[(j:Int)]:=by rw[List.reverse_cons];simp[bM]
 have hrl:(bM R'.reverse).length=R'.length:=by rw[eL,List.length_reverse]
 have hgj:(bM (j::R').reverse).getD R'.length 0=(j:Int):=by rw[hrev,<-hrl];simp
 have hcl:(j::R').length=R'.length+1:=rfl
 have ht:(((j::R').length:Int)-1).toNat=R'.length:=by omega
 have htk:(bM (j::R').reverse).take R'.length=bM R'.reverse:=by rw[hrev,<-hrl];simp
 conv=>whnf
 refine aI ?_
 conv=>whnf
 refine nI ?_
 rw[ht]
 conv=>whnf
 rw[hgj]
 refine aI ?_
 conv=>whnf
 refine DU ?_
 conv=>whnf
 refine nI ?_
 rw[ht]
 conv=>whnf
 refine dI ?_
 conv=>whnf
 refine nI ?_
 rw[tN]
 conv=>whnf
 refine ak _ rfl ?_
 conv=>whnf
 refine cB [(j:Int)] rfl (by rw[eL];simp only[List.length_cons,List.length_nil];omega) ?_
 conv=>whnf
 have eA:bM (A++[j])=bM A++[(j:Int)]:=by simp[bM]
 have eP:eW es.length (GG s1 (A++[j]))=(eW es.length (GG s1 A)).set j (s1.inn.length:Int):=by rw[La,F4]
 refine ah ?_ ?_<;>(intro g4;conv=>whnf)
 ·obtain rfl:j=i:=by omega
  have e:=Iq h1 h2 heq
  have eI:(s1.inn++[A++[j]]).map bM=s1.inn.map bM++[bM A++[(j:Int)]]:=by rw[List.map_append,List.map_singleton,eA]
  refine sk [2,3,5,8,9] (by decide+kernel) ?_
  conv=>whnf
  repeat' first
   |(refine⟨rfl,s1,hfull, .inr ?_⟩
     rw[e]
     unfold GF Jn Io
     dsimp only
     rw[eI,eP,<-htk]
     exact(aa))
   |exact True.intro
   |(refine And.intro ?_ ?_<;>conv=>whnf)
   |(refine cA [] cU [bM A++[(j:Int)]] rfl ?_;conv=>whnf)
   |(refine cB [bM A++[(j:Int)]] rfl (by rw[List.length_map];simp only[List.length_cons,List.length_nil];omega) ?_;conv=>whnf)
   |(refine iH ?_;conv=>whnf)
   |fail
 ·refine⟨(A++[j],R'),?_,⟨?_,?_,?_⟩,?_⟩
  ·dsimp only
   unfold NQ Io
   rw[eA,eP,<-htk]
   exact aM.by_ ([(1000, .old 118),(213, .old 213),(215, .old 215),(223, .old 223),(233, .old 103),(225, .old 225)]++K9) _ 400 rfl (aa) (aa)
  ·rw[h1];simp
  ·intro h
   rcases List.mem_append.1 h with h|h
   ·exact h2 h
   ·exact g4 (by rw[List.mem_singleton.1 h])
  ·rcases List.mem_cons.1 h3 with h|h
   ·exact absurd (by rw[h]) g4
   ·exact h
  ·dsimp only;simp only[List.length_cons];omega
theorem Ou (xc:List AV) (es:List (List gP)) (hes:zZ es):∀m,NR xc es m
 |0=>Ot xc es hes 0 fun h=>absurd h (Nat.lt_irrefl _)
 |m+1=>Ot xc es hes (m+1) fun _=>Ou xc es hes m
end Go.Proofs.YtokjgegkhlkopaaGreatDoor
