import Derived.Test.YtblcpnmnibcbbaaGreatDoorLaA
import Derived.Test.YtblcpnmnibcbbaaGreatDoorLA
import Derived.Test.YtblcpnmnibcbbaaGreatDoorXQ
set_option linter.unusedVariables false
set_option linter.unusedSimpArgs false
namespace Go.Proofs.YtblcpnmnibcbbaaGreatDoor
set_option maxRecDepth 100000
set_option maxHeartbeats 16000000
theorem Ky {A B:Prop} (k:A->B) (h:A):B:=k h
theorem Kz {A1 A2 A3 A4 A5 A6 B:Prop} (k:A1->A2->A3->A4->A5->A6->B) (h1:A1) (h2:A2) (h3:A3) (h4:A4) (h5:A5) (h6:A6):B:=k h1 h2 h3 h4 h5 h6
def Kd (s:TS):Prop:=s.inn.length+s.st.length<=s.ct
theorem J9 (i:Nat):∀{l:List Nat},l≠[]->(qy i l).length+1<=l.length
 |[],h=>absurd rfl h
 |x::l,_=>by
  rw[qy]
  split
  ·exact Nat.le_refl _
  ·cases l with
   |nil=>simp[qy]
   |cons z l=>
    have:=J9 i (l:=z::l) (by simp)
    simp only[List.length_cons] at this⊢
    omega
theorem Kd.lea {i:Nat} {s:TS} (h:Kd s) (hs:s.st≠[]):Kd (jg i s):=by
 unfold jg
 split
 ·have:=J9 i hs
  unfold Kd at h⊢
  show(s.inn++[zV i s.st]).length+(qy i s.st).length<=s.ct
  rw[List.length_append,List.length_singleton]
  omega
 ·exact h
theorem Tj.cnt {E:Nat->List Nat} {i ys s t} (h:Tj E i ys s t):∀{S M ds rs},E i=ds++(ys++rs)->C9 E i S M ds s->Kd s->Kd t:=by
 induction h with
 |nil=>exact fun _ _ h=>h
 |@white i y ys s s1 s3 hw h1 _ ih1 ih2=>
  intro S M ds rs hE hL hC
  have c1:=ih1 (ds:=[]) (rs:=[]) (by simp) (C9.enter hL.g hw) (by
   unfold Kd at hC⊢
   show s.inn.length+(y::s.st).length<=s.ct+1
   rw[List.length_cons];omega)
  obtain⟨⟨N,hN⟩,_⟩:=h1.goodR (ds:=[]) (rs:=[]) (by simp) (C9.enter hL.g hw)
  have c2:Kd (jg y s1):=c1.lea (by rw[hN.st];simp)
  obtain⟨⟨M',hM'⟩,_⟩:=(Tj.white hw h1 .nil).goodR (rs:=ys++rs) hE hL
  exact ih2 (rs:=rs) (by rw[hE];simp) hM' c2
 |@stack i y ys s s3 hy hp _ ih=>
  intro S M ds rs hE hL hC
  obtain⟨⟨M',hM'⟩,_⟩:=(Tj.stack hy hp .nil).goodR (rs:=ys++rs) hE hL
  exact ih (rs:=rs) (by rw[hE];simp) hM' hC
 |@part i y ys s s3 hy hp _ ih=>
  intro S M ds rs hE hL hC
  obtain⟨⟨M',hM'⟩,_⟩:=(Tj.part hy hp .nil).goodR (rs:=ys++rs) hE hL
  exact ih (rs:=rs) (by rw[hE];simp) hM' hC
structure Ks (E:Nat->List Nat) (n:Nat) (s:TS):Prop where
 g:G3 E s
 nm:Db n s
 cn:Kd s
theorem Ks.mid {E:Nat->List Nat} {n i:Nat} {s t:TS} (h:Ks E n s) (hE:∀x,∀y∈E x,y<n) (hi:i<n) (h0:s.ix i=0) {k:Nat} (r:Tj E i ((E i).take k) (q6 i s) t):
  (∃M,C9 E i s.st M ((E i).take k) t)/\Ks E n t/\(Da n t).length+1<=(Da n s).length:=by
 have e:E i=[]++((E i).take k++(E i).drop k):=by rw[List.take_append_drop];rfl
 have hL:=C9.enter h.g h0
 have hC:Kd (q6 i s):=by
  have:=h.cn
  unfold Kd at this⊢
  show s.inn.length+(i::s.st).length<=s.ct+1
  rw[List.length_cons];omega
 obtain⟨⟨M,hM⟩,_⟩:=r.goodR e hL
 obtain⟨a,_,b⟩:=r.num hE (fun y hy=>hE i y (List.mem_of_mem_take hy)) (h.nm.ent hi h0)
 have:=EZ hi h0
 exact⟨⟨M,hM⟩,⟨hM.g,a,r.cnt e hL hC⟩,by omega⟩
def Kt (e:GL):List AV:=[.int .i64 e.to, .int .i64 e.stp.rule, .int .i64 e.stp.process, .int .i64 e.stp.partner]
def Kq (l:List GL):List AV:=[.sl Kb Kt l]
def J6 (es:List (List GL)) (i:Nat):List Nat:=(es.getD i []).map fun e=>e.to.toNat
structure Kj (es:List (List GL)):Prop where
 n:es.length<=4000
 l:∀i,(es.getD i []).length<=1000000
 e:∀i,∀e∈es.getD i [],∃j:Nat,e.to=(j:Int)/\j<es.length
theorem Kj.lt {es:List (List GL)} (h:Kj es):∀x,∀y∈J6 es x,y<es.length:=fun x y hy=>by
 obtain⟨e,he,rfl⟩:=List.mem_map.1 hy
 obtain⟨j,e1,hj⟩:=h.e x e he
 rw[e1]
 exact hj
theorem Kk {es:List (List GL)} {i k:Nat} (hk:k<(es.getD i []).length) {y:Nat} {x:be} (h:(es.getD i []).getD k Kb=⟨(y:Int),x⟩):(J6 es i).take (k+1)=(J6 es i).take k++[y]:=by
 have e1:(es.getD i []).getD k Kb=(es.getD i [])[k]:=by rw[gD,gL hk];rfl
 unfold J6
 rw[List.take_succ_eq_append_getElem (by rw[List.length_map];exact hk),List.getElem_map,<-e1,h]
 rfl
def KB:AV:=.fn 148 [.ptr 200 0, .ptr 201 0, .ptr 202 0, .ptr 203 0, .ptr 204 0, .ptr 205 0]
def Kl (xc:List AV) (es:List (List GL)) (ct:Nat) (ix lo:Nat->Nat) (pt:Nat->Option Nat) (st:List Nat) (inn:List (List Nat)) (a b:Nat):List (Nat×bj):=
 [(200, .box 3 [.int .i64 (ct:Int)]),(201, .box 24 [.row 211 es.length 1]),(202, .box 24 [.row 212 es.length 1]),(203, .box 24 [.row a st.length 1]),
  (204, .box 104 [.ptr 210 0]),(205, .box 77 [KB]),(210, .box 110 [.pd xc, .sl [] Kq es, .row 214 es.length 1, .row b inn.length 1]),
  (211,cH (vT es.length ix)),(212,cH (vT es.length lo)),(214,cH (vU es.length pt)),(a,cH (JN st.reverse)),(b,cX (inn.map JN))]
def Ko (xc:List AV) (es:List (List GL)) (s:TS) (a b:Nat):List (Nat×bj):=Kl xc es s.ct s.ix s.lo s.pt s.st s.inn a b
def Ku (xc:List AV) (es:List (List GL)) (s:TS):List (Nat×bj):=Ko xc es s 213 215
def Km (xc:List AV) (es:List (List GL)) (s:TS):List (Nat×bj):=(213, .dead)::(215, .dead)::Ko xc es s 223 225
def KC (xc:List AV) (es:List (List GL)) (s:TS):List (Nat×bj):=(223, .dead)::(225, .dead)::Ko xc es s 233 235
def Kr:c9:=[(200, .old 200),(201, .old 201),(202, .old 202),(203, .old 203),(204, .old 204),(205, .old 205),(210, .old 210),(211, .old 211),(212, .old 212),(214, .old 214)]
def Kp (a b:Nat):c9:=[(213, .old 213),(215, .old 215),(223, .old a),(225, .old b)]++Kr
theorem Ka {n i v:Nat} (f:Nat->Nat) {a b:Int} (ha:a=(f i:Int)) (hb:b=(v:Int)):(vT n f).set i (if b<a then b else a)=vT n (ew f i (min (f i) v)):=by
 have e:(if b<a then b else a)=((min (f i) v:Nat):Int):=by
  rw[ha,hb]
  split<;>omega
 rw[e,Io]
theorem J5 (l:List Nat):(JN l).length=l.length:=by simp[JN]
def Kf (s:TS) (A:List Nat):Nat->Option Nat:=fun x=>if x∈A then some s.inn.length else s.pt x
theorem Kg (s:TS):Kf s []=s.pt:=by funext x;simp[Kf]
theorem Kn (s:TS) (A:List Nat) (j:Nat):Kf s (A++[j])=ew (Kf s A) j (some s.inn.length):=by
 funext x
 unfold Kf ew
 by_cases h1:x=j
 ·simp[h1]
 ·simp[h1]
def Kx (xc:List AV) (es:List (List GL)) (s:TS) (A R:List Nat):List (Nat×bj):=
 (1000,cH (JN A))::(213, .dead)::(215, .dead)::(223, .dead)::Kl xc es s.ct s.ix s.lo (Kf s A) R s.inn 233 225
theorem Kh {i:Nat} {s:TS} {A R:List Nat} (h:s.st=A++i::R) (hA:i∉A) (hl:s.lo i=s.ix i):jg i s={s with st:=R,pt:=Kf s (A++[i]),inn:=s.inn++[A++[i]]}:=by
 unfold jg
 rw[if_pos hl]
 unfold GJ Kf
 rw[h,(EX hA).1,(EX hA).2]
def KA (xc:List AV) (es:List (List GL)) (m:Nat):Prop:=∀(i:Nat) (s:TS),i<es.length->s.ix i=0->Ks (J6 es) es.length s->(Da es.length s).length<=m->
 ar Tryz.prog 148 [.int .i64 (i:Int), .ptr 200 0, .ptr 201 0, .ptr 202 0, .ptr 203 0, .ptr 204 0, .ptr 205 0] (ah.ofL (Ku xc es s))
  (fun u M=>u= .tup []/\∃t,Tj (J6 es) i (J6 es i) (q6 i s) t/\M=ah.ofL (Km xc es (jg i t)))
theorem KE (xc:List AV) (es:List (List GL)) (hes:Kj es) (m:Nat) (ih:0<m->KA xc es (m-1)):KA xc es m:=by
 intro i s hi h0 hV hm
 have hn:=hes.n
 have hE:=hes.lt
 have hct:=hV.nm.ct
 have hcn:=hV.cn
 unfold Kd at hcn
 have hw1:=EZ hi h0
 refine ar.renorm 400 (R:=fun u M=>u= .tup []/\∃t,Tj (J6 es) i (J6 es i) (q6 i s) t/\(dS (Kp 223 225) 400 M (Km xc es (jg i t))\/dS (Kp 103 129) 400 M (Km xc es (jg i t)))) ?_ ?_
 case refine_2=>
  rintro u M' ⟨rfl,t,h1,h2|h2⟩
  ·exact⟨_,_, .tup [],rfl,h2,trivial,rfl,t,h1,rfl⟩
  ·exact⟨_,_, .tup [],rfl,h2,trivial,rfl,t,h1,rfl⟩
 refine ar.introW ab (Ku xc es s) Tryz.func148 rfl (by decide) ?_
 dsimp only[oi,List.append,List.length,Nat.sub]
 refine aR.seqC ab ac ?_
 conv=>whnf
 refine aI ?_
 conv=>whnf
 refine aR.seqC ab ac ?_
 conv=>whnf
 refine dR ?_
 conv=>whnf
 refine nI ?_
 rw[tN]
 conv=>whnf
 refine ak _ rfl ?_
 conv=>whnf
 refine nI ?_
 rw[tN]
 conv=>whnf
 refine ak _ rfl ?_
 conv=>whnf
 refine bw ab ac _ _ _ _ ?_
 conv=>whnf
 refine eC [(i:Int)] rfl (by rw[J5,List.length_reverse];simp only[List.length_cons,List.length_nil];omega) ?_
 conv=>whnf
 refine nI ?_
 rw[tN]
 conv=>whnf
 have hdl:=hes.l i
 have hei:=hes.e i
 refine aR.loopF ab ac (fun z:Nat×TS=>z.1<=(es.getD i []).length/\Tj (J6 es) i ((J6 es i).take z.1) (q6 i s) z.2) (fun z=>[(9, .top),(24, .top),(25, .top),(34, .int .i64 (z.1:Int))]) (fun z=>Km xc es z.2) (fun z=>(es.getD i []).length-z.1) (0,q6 i s) ⟨Nat.zero_le _,by rw[List.take_zero];exact .nil⟩ ?_;conv=>whnf
 refine⟨?_,?_⟩
 ·dsimp only
  have e1:vT es.length (q6 i s).ix=(vT es.length s.ix).set i ((s.ct:Int)+1):=by
   rw[show((s.ct:Int)+1)=((s.ct+1:Nat):Int) by omega,Io];rfl
  have e2:vT es.length (q6 i s).lo=(vT es.length s.lo).set i ((s.ct:Int)+1):=by
   rw[show((s.ct:Int)+1)=((s.ct+1:Nat):Int) by omega,Io];rfl
  have e3:JN (q6 i s).st.reverse=JN s.st.reverse++[(i:Int)]:=by
   show JN (i::s.st).reverse=_
   rw[List.reverse_cons];simp[JN]
  unfold Km Ko Kl
  rw[e1,e2,e3]
  exact bE.by_ (Kp 25 215) _ 400 rfl (ai) (ai)
 rintro⟨k,s1⟩ ⟨hk,hr⟩
 dsimp only at hk hr⊢
 obtain⟨⟨M0,hL⟩,hV1,hw2⟩:=hV.mid hE hi h0 hr
 have hct1:=hV1.nm.ct
 have hcn1:=hV1.cn
 unfold Kd at hcn1
 conv=>whnf
 refine ag ?_ ?_<;>(intro g1;conv=>whnf)
 ·have hkl:k<(es.getD i []).length:=by omega
  refine nI ?_
  rw[tN]
  obtain⟨y,x,hyx,hyn⟩:∃(y:Nat) (x:be),(es.getD i []).getD k Kb=⟨(y:Int),x⟩/\y<es.length:=by
   obtain⟨y,h1,h2⟩:=hei _ (bi Kb hkl)
   refine⟨y,((es.getD i []).getD k Kb).stp,?_,h2⟩
   rw[<-h1]
  have hup:=Kk hkl hyx
  rw[hyx]
  conv=>whnf
  refine nI ?_
  rw[tN]
  conv=>whnf
  have hix:=IH hyn s1.ix
  have hli:=IH hi s1.lo
  refine ag ?_ ?_<;>(intro g2;conv=>whnf)
  ·have hwy:s1.ix y=0:=by omega
   refine ar.call ([(213, .old 223),(215, .old 225)]++Kr) (Ku xc es s1) 400 rfl (ai) (ai) (ih (by omega) y s1 hyn hwy hV1 (by omega)) ?_
   rintro u M' ⟨rfl,t,hT,rfl⟩
   refine⟨[(223, .old 213),(225, .old 215),(233, .old 223),(235, .old 225)]++Kr,KC xc es (jg y t), .tup [],rfl,(ai),trivial,?_⟩
   have hstep:Tj (J6 es) i ((J6 es i).take (k+1)) (q6 i s) (zU i ((jg y t).lo y) (jg y t)):=by
    rw[hup];exact hr.app (.white hwy hT .nil)
   generalize jg y t=t2 at hstep⊢
   conv=>whnf
   refine dI ?_
   conv=>whnf
   refine nI ?_
   rw[tN]
   conv=>whnf
   refine nI ?_
   rw[tN]
   conv=>whnf
   refine nI ?_
   rw[tN]
   conv=>whnf
   refine ak _ rfl ?_
   conv=>whnf
   repeat' ((first|refine nI ?_|refine aI ?_|refine tI ?_|refine fI ?_|fail);conv=>whnf)
   refine⟨(k+1,zU i (t2.lo y) t2),?_,⟨by dsimp only;omega,hstep⟩,by dsimp only;omega⟩
   dsimp only
   have e1:vT es.length (zU i (t2.lo y) t2).lo=_:=(Ka t2.lo (IH hi t2.lo) (IH hyn t2.lo)).symm
   unfold Km Ko Kl
   rw[e1]
   exact bE.by_ (Kp 233 235) _ 400 rfl (ai) (ai)
  ·have hwy:s1.ix y≠0:=by omega
   refine dI ?_
   conv=>whnf
   refine nI ?_
   rw[tN]
   conv=>whnf
   have hpt:=II hyn s1.pt
   refine ag ?_ ?_<;>(intro g3;conv=>whnf)
   ·have hstep:Tj (J6 es) i ((J6 es i).take (k+1)) (q6 i s) (zU i (s1.ix y) s1):=by
     rw[hup];exact hr.app (.stack hwy (hpt.1 g3) .nil)
    refine dI ?_
    conv=>whnf
    refine nI ?_
    rw[tN]
    conv=>whnf
    refine nI ?_
    rw[tN]
    conv=>whnf
    refine nI ?_
    rw[tN]
    conv=>whnf
    refine ak _ rfl ?_
    conv=>whnf
    repeat' ((first|refine nI ?_|refine aI ?_|refine tI ?_|refine fI ?_|fail);conv=>whnf)
    refine⟨(k+1,zU i (s1.ix y) s1),?_,⟨by dsimp only;omega,hstep⟩,by dsimp only;omega⟩
    dsimp only
    have e1:vT es.length (zU i (s1.ix y) s1).lo=_:=(Ka s1.lo (IH hi s1.lo) (IH hyn s1.ix)).symm
    unfold Km Ko Kl
    rw[e1]
    exact bE.by_ (Kp 223 225) _ 400 rfl (ai) (ai)
   ·have hstep:Tj (J6 es) i ((J6 es i).take (k+1)) (q6 i s) s1:=by
     rw[hup];exact hr.app (.part hwy (fun h=>g3 (hpt.2 h)) .nil)
    repeat' ((first|refine nI ?_|refine aI ?_|refine tI ?_|refine fI ?_|fail);conv=>whnf)
    refine⟨(k+1,s1),?_,⟨by dsimp only;omega,hstep⟩,by dsimp only;omega⟩
    exact bE.by_ (Kp 223 225) _ 400 rfl (ai) (ai)
 obtain rfl:k=(es.getD i []).length:=by omega
 have hfull:Tj (J6 es) i (J6 es i) (q6 i s) s1:=by
  have e:(J6 es i).take (es.getD i []).length=J6 es i:=List.take_of_length_le (by unfold J6;rw[List.length_map];exact Nat.le_refl _)
  rw[e] at hr
  exact hr
 have hli:=IH hi s1.lo
 have hix:=IH hi s1.ix
 refine dI ?_
 conv=>whnf
 refine nI ?_
 rw[tN]
 conv=>whnf
 refine nI ?_
 rw[tN]
 conv=>whnf
 refine ag ?_ ?_<;>(intro g2;conv=>whnf)
 ·have hne:s1.lo i≠s1.ix i:=by omega
  refine⟨rfl,s1,hfull, .inl ?_⟩
  have e:jg i s1=s1:=if_neg hne
  rw[e]
  exact(ai)
 have heq:s1.lo i=s1.ix i:=by omega
 have hiM:=hL.iM
 have hst:=hL.st
 have hle:s1.st.length<=4000:=by omega
 have hlt:∀x∈s1.st,x<es.length:=hV1.nm.st
 refine aR.loopF ab ac (fun z:List Nat×List Nat=>s1.st=z.1++z.2/\i∉z.1/\i∈z.2) (fun z=>[(10, .row 1000 z.1.length 1)]) (fun z=>Kx xc es s1 z.1 z.2) (fun z=>z.2.length) ([],s1.st) ⟨rfl,by simp,by rw[hst];simp⟩ ?_;conv=>whnf
 refine⟨?_,?_⟩
 ·unfold Kx Kl
  dsimp only
  rw[Kg]
  exact bE.by_ ([(1000, .nil 1),(213, .old 213),(215, .old 215),(223, .old 223),(233, .old 223),(225, .old 225)]++Kr) _ 400 rfl (ai) (ai)
 rintro⟨A,R⟩ ⟨h1,h2,h3⟩
 dsimp only at h1 h2 h3⊢
 obtain⟨j,R',rfl⟩:∃j R',R=j::R':=by
  cases R with
  |nil=>cases h3
  |cons j R'=>exact⟨j,R',rfl⟩
 have hjn:j<es.length:=hlt j (by rw[h1];simp)
 have hlen:A.length+R'.length+1<=4000:=by rw[h1,List.length_append,List.length_cons] at hle;omega
 have hrev:JN (j::R').reverse=JN R'.reverse++[(j:Int)]:=by rw[List.reverse_cons];simp[JN]
 have hrl:(JN R'.reverse).length=R'.length:=by rw[J5,List.length_reverse]
 have hgj:(JN (j::R').reverse).getD R'.length 0=(j:Int):=by rw[hrev,<-hrl];simp
 have hcl:(j::R').length=R'.length+1:=rfl
 have ht:(((j::R').length:Int)-1).toNat=R'.length:=by omega
 have htk:(JN (j::R').reverse).take R'.length=JN R'.reverse:=by rw[hrev,<-hrl];simp
 conv=>whnf
 refine aI ?_
 conv=>whnf
 refine nI ?_
 rw[ht]
 conv=>whnf
 rw[hgj]
 refine aI ?_
 conv=>whnf
 refine FG ?_
 conv=>whnf
 refine nI ?_
 rw[ht]
 conv=>whnf
 refine dI ?_
 conv=>whnf
 refine nI ?_
 rw[tN]
 conv=>whnf
 refine ak _ rfl ?_
 conv=>whnf
 refine eC [(j:Int)] rfl (by rw[J5];simp only[List.length_cons,List.length_nil];omega) ?_
 conv=>whnf
 have eA:JN (A++[j])=JN A++[(j:Int)]:=by simp[JN]
 have eP:vU es.length (Kf s1 (A++[j]))=(vU es.length (Kf s1 A)).set j (s1.inn.length:Int):=by rw[Kn,Ip]
 refine ag ?_ ?_<;>(intro g4;conv=>whnf)
 ·obtain rfl:j=i:=by omega
  have e:=Kh h1 h2 heq
  have eI:(s1.inn++[A++[j]]).map JN=s1.inn.map JN++[JN A++[(j:Int)]]:=by rw[List.map_append,List.map_singleton,eA]
  refine I7 [2,3,5,8,9] (by decide+kernel) ?_
  conv=>whnf
  repeat' first
   |(refine⟨rfl,s1,hfull, .inr ?_⟩
     rw[e]
     unfold Km Ko Kl
     dsimp only
     rw[eI,eP,<-htk]
     exact(ai))
   |exact True.intro
   |(refine And.intro ?_ ?_<;>conv=>whnf)
   |(refine c8 [] eG [JN A++[(j:Int)]] rfl ?_;conv=>whnf)
   |(refine eC [JN A++[(j:Int)]] rfl (by rw[List.length_map];simp only[List.length_cons,List.length_nil];omega) ?_;conv=>whnf)
   |(refine jN ?_;conv=>whnf)
   |fail
 ·refine⟨(A++[j],R'),?_,⟨?_,?_,?_⟩,?_⟩
  ·dsimp only
   unfold Kx Kl
   rw[eA,eP,<-htk]
   exact bE.by_ ([(1000, .old 118),(213, .old 213),(215, .old 215),(223, .old 223),(233, .old 103),(225, .old 225)]++Kr) _ 400 rfl (ai) (ai)
  ·rw[h1];simp
  ·intro h
   rcases List.mem_append.1 h with h|h
   ·exact h2 h
   ·exact g4 (by rw[List.mem_singleton.1 h])
  ·rcases List.mem_cons.1 h3 with h|h
   ·exact absurd (by rw[h]) g4
   ·exact h
  ·dsimp only;simp only[List.length_cons];omega
theorem KF (xc:List AV) (es:List (List GL)) (hes:Kj es):∀m,KA xc es m
 |0=>KE xc es hes 0 fun h=>absurd h (Nat.lt_irrefl _)
 |m+1=>KE xc es hes (m+1) fun _=>KF xc es hes m
end Go.Proofs.YtblcpnmnibcbbaaGreatDoor
