import Derived.Test.YtokjgegkhlkopaaGreatDoorLaB
set_option linter.unusedVariables false
set_option linter.unusedSimpArgs false
namespace Go.Proofs.YtokjgegkhlkopaaGreatDoor
set_option maxRecDepth 100000
set_option maxHeartbeats 16000000
theorem MU (k:Nat) (hn:k<=4000):an Tryz.prog 68 [.int .i64 (k:Int)] (ai.ofL []) (fun u M=>∃ℓ0,u= .row ℓ0 k 1/\M ℓ0=some (bG (List.replicate k (-1)))):=by
 refine an.intro ab ac [] Tryz.func68 rfl (by decide) ?_
 conv=>whnf
 rw[if_neg (by omega)]
 refine ww 0 aD 0 rfl (by dsimp only;omega) ?_
 rw[tN]
 conv=>whnf
 repeat' ((first|refine nI ?_|refine aI ?_|refine uI ?_|refine vI ?_|refine dI ?_|refine dR ?_|refine dP ?_|refine am rfl ?_|refine pI _ rfl ?_|refine ak _ rfl ?_|refine tI ?_|refine fI ?_|refine ah (fun _=>?_) (fun _=>?_))<;>conv=>whnf)
 refine aE.loop (fun i:Nat=>i<=k) (fun i=>(.top:: .top:: .top::(.row 7 k 1):: .top:: .top:: .top:: .top:: .top::(.int .i64 (k:Int))::(.int .i64 (i:Int))::T 7)) (fun i=>ai.ofL [(7,bG (List.replicate i (-1)++List.replicate (k-i) 0))]) (fun i=>k-i) 0 (by omega) (aM.by_ [(7, .old 7)] _ 400 rfl ⟨p6 _ (by simp),trivial⟩ (aa)) ?_
 intro i hi
 refine aZ ab ac _ _ _ _ ?_
 conv=>whnf
 repeat' ((first|refine nI ?_|refine aI ?_|refine uI ?_|refine vI ?_|refine dI ?_|refine dR ?_|refine dP ?_|refine am rfl ?_|refine pI _ rfl ?_|refine ak _ rfl ?_|refine tI ?_|refine fI ?_|refine ah (fun _=>?_) (fun _=>?_))<;>conv=>whnf)
 ·refine⟨i+1,(aM.by_ [(7, .old 7)] _ 400 rfl ⟨p6 _ ?_,trivial⟩ (aa)),by omega,Nat.sub_lt_sub_left (by omega) (by omega)⟩
  rw[tN,List.set_append_right _ _ (by simp),List.length_replicate,Nat.sub_self,List.replicate_succ',List.append_assoc]
  congr 1
  rw[show k-i=(k-(i+1))+1 by omega,List.replicate_succ]
  rfl
 ·obtain rfl:i=k:=by omega
  refine⟨7,rfl,?_⟩
  show some _=_
  simp only[Nat.sub_self,List.replicate_zero,List.append_nil]
theorem Tj.ltn {E:Nat->List Nat} {n i ys s t} (h:Tj E i ys s t):(∀x,∀y∈E x,y<n)->(∀y∈ys,y<n)->(∀x,s.ix x≠0->x<n)->∀x,t.ix x≠0->x<n:=by
 induction h with
 |nil=>exact fun _ _ h=>h
 |@white i y ys s s1 s3 hw _ _ ih1 ih2=>
  intro hE hy hs
  refine ih2 hE (fun z hz=>hy z (List.mem_cons_of_mem _ hz)) fun x hx=>?_
  have hx:(dG y s1).ix x≠0:=hx
  rw[(v4 y s1).1] at hx
  refine ih1 hE (hE y) (fun z hz=>?_) x hx
  by_cases e:z=y
  ·rw[e];exact hy y List.mem_cons_self
  ·have hz:cQ s.ix y (s.ct+1) z≠0:=hz
   rw[bq _ _ e] at hz
   exact hs z hz
 |stack _ _ _ ih=>exact fun hE hy hs=>ih hE (fun z hz=>hy z (List.mem_cons_of_mem _ hz)) hs
 |part _ _ _ ih=>exact fun hE hy hs=>ih hE (fun z hz=>hy z (List.mem_cons_of_mem _ hz)) hs
theorem yn (i:Nat):∀l:List Nat,(pc i l).length<=l.length
 |[]=>Nat.le_refl _
 |x::l=>by
  rw[pc]
  split
  ·simp
  ·have:=yn i l
   simp only[List.length_cons];omega
def Lb (n:Nat) (s:TS):Prop:=∀l∈s.inn,l.length<=n
theorem Lb.lea {n i:Nat} {s:TS} (h:Lb n s) (hs:s.st.length<=n):Lb n (dG i s):=by
 unfold dG
 split
 ·intro l hl
  have hl:l∈s.inn++[pc i s.st]:=hl
  rcases List.mem_append.1 hl with hl|hl
  ·exact h l hl
  ·rw[List.mem_singleton.1 hl]
   exact Nat.le_trans (yn i s.st) hs
 ·exact h
theorem Tj.lens {E:Nat->List Nat} {n i ys s t} (h:Tj E i ys s t):∀{S M ds rs},E i=ds++(ys++rs)->mn E i S M ds s->(∀x,∀y∈E x,y<n)->Bn n s->tm s->Lb n s->Lb n t:=by
 induction h with
 |nil=>exact fun _ _ _ _ _ h=>h
 |@white i y ys s s1 s3 hw h1 _ ih1 ih2=>
  intro S M ds rs hE hL hlt hN hC hD
  have hy:y<n:=hlt i y (by rw[hE];simp)
  have hC1:tm (gq y s):=by
   unfold tm at hC⊢
   show s.inn.length+(y::s.st).length<=s.ct+1
   rw[List.length_cons];omega
  have hN1:=hN.ent hy hw
  have hL1:=mn.enter hL.g hw
  have d1:=ih1 (ds:=[]) (rs:=[]) (by simp) hL1 hlt hN1 hC1 hD
  have n1:=(h1.num hlt (hlt y) hN1).1
  have c1:=h1.cnt (ds:=[]) (rs:=[]) (by simp) hL1 hC1
  obtain⟨⟨N,hN'⟩,_⟩:=h1.goodR (ds:=[]) (rs:=[]) (by simp) hL1
  have hst:s1.st.length<=n:=by
   have a:=n1.ct
   have b:=c1
   unfold tm at b
   omega
  obtain⟨⟨M',hM'⟩,_⟩:=(Tj.white hw h1 .nil).goodR (rs:=ys++rs) hE hL
  exact ih2 (rs:=rs) (by rw[hE];simp) hM' hlt n1.lea.low (c1.lea (by rw[hN'.st];simp)) (d1.lea hst)
 |@stack i y ys s s3 hy hp _ ih=>
  intro S M ds rs hE hL hlt hN hC hD
  obtain⟨⟨M',hM'⟩,_⟩:=(Tj.stack hy hp .nil).goodR (rs:=ys++rs) hE hL
  exact ih (rs:=rs) (by rw[hE];simp) hM' hlt hN.low hC hD
 |@part i y ys s s3 hy hp _ ih=>
  intro S M ds rs hE hL hlt hN hC hD
  obtain⟨⟨M',hM'⟩,_⟩:=(Tj.part hy hp .nil).goodR (rs:=ys++rs) hE hL
  exact ih (rs:=rs) (by rw[hE];simp) hM' hlt hN hC hD
structure Bt (E:Nat->List Nat) (n k:Nat) (s:TS):Prop where
 v:MT E n s
 st:s.st=[]
 lt:∀x,s.ix x≠0->x<n
 d:Lb n s
 dn:∀x,x<k->s.ix x≠0
def Lc:TS:=⟨fun _=>0,fun _=>0,fun _=>none,[],0,[]⟩
theorem Bt.zero (E:Nat->List Nat) (n:Nat):Bt E n 0 Lc:=by
 have hG:F1 E Lc:=by
  refine⟨List.Pairwise.nil,fun _ h=>(nomatch h),fun _=>Nat.le_refl _,fun _ h=>absurd rfl h,fun _ h=>absurd rfl h,fun _ h=>absurd rfl h,fun _ _ h=>absurd rfl h,fun _ _ h=>absurd rfl h,fun k x=>⟨fun h=>(nomatch h),?_⟩,fun _ h=>(nomatch h)⟩
  rintro⟨l,h,_⟩
  have h:([]:List (List Nat))[k]? =some l:=h
  simp at h
 have hN:Bn n Lc:=by
  refine⟨?_,fun _ h=>(nomatch h),fun _=>Nat.le_refl _,fun _=>Nat.le_refl _⟩
  show 0+(Bm n Lc).length=n
  have e:(List.range n).filter (fun x=>Lc.ix x=0)=List.range n:=List.filter_eq_self.2 fun _ _=>rfl
  unfold Bm
  rw[e,List.length_range,Nat.zero_add]
 exact⟨⟨hG,hN,Nat.le_refl _⟩,rfl,fun _ h=>absurd rfl h,fun _ h=>(nomatch h),fun _ h=>absurd h (Nat.not_lt_zero _)⟩
theorem Bt.skip {E:Nat->List Nat} {n k:Nat} {s:TS} (h:Bt E n k s) (hk:s.ix k≠0):Bt E n (k+1) s:=by
 refine⟨h.v,h.st,h.lt,h.d,fun x hx=>?_⟩
 by_cases e:x=k
 ·rw[e];exact hk
 ·exact h.dn x (by omega)
theorem Bt.step {E:Nat->List Nat} {n k:Nat} {s t:TS} (h:Bt E n k s) (hE:∀x,∀y∈E x,y<n) (hk:k<n) (h0:s.ix k=0) (r:Tj E k (E k) (gq k s) t):Bt E n (k+1) (dG k t):=by
 obtain⟨a,b,c,d⟩:=r.top h.v.g h.st h0
 have r':Tj E k ((E k).take (E k).length) (gq k s) t:=by rw[List.take_length];exact r
 obtain⟨⟨M,hM⟩,hv,_⟩:=h.v.mid hE hk h0 r'
 have hcn:=h.v.cn
 have hC1:tm (gq k s):=by
  unfold tm at hcn⊢
  show s.inn.length+(k::s.st).length<=s.ct+1
  rw[List.length_cons];omega
 have hdt:Lb n t:=r.lens (ds:=[]) (rs:=[]) (by simp) (mn.enter h.v.g h0) hE (h.v.nm.ent hk h0) hC1 h.d
 have hst:t.st.length<=n:=by
  have a:=hv.nm.ct
  have b:=hv.cn
  unfold tm at b
  omega
 refine⟨⟨a,hv.nm.lea,hv.cn.lea (by rw[hM.st];simp)⟩,b,fun x hx=>?_,hdt.lea hst,fun x hx=>?_⟩
 ·rw[(v4 k t).1] at hx
  refine r.ltn hE (hE k) (fun z hz=>?_) x hx
  by_cases e:z=k
  ·rw[e];exact hk
  ·have hz:cQ s.ix k (s.ct+1) z≠0:=hz
   rw[bq _ _ e] at hz
   exact h.lt z hz
 ·by_cases e:x=k
  ·rw[e];exact d
  ·rw[c x (h.dn x (by omega))];exact h.dn x (by omega)
structure Ov (es:List (List gP)) (t:TS):Prop where
 g:F1 (ph es) t
 v:∀x,x<es.length↔t.pt x≠none
 n:t.inn.length<=es.length
 m:∀l∈t.inn,l.length<=es.length/\∀x∈l,x<es.length
theorem Bt.fin {es:List (List gP)} {t:TS} (h:Bt (ph es) es.length es.length t):Ov es t:=by
 have hp:∀x,t.pt x≠none->x<es.length:=fun x hx=>h.lt x (h.v.g.pv x hx)
 have hC:=h.v.cn
 unfold tm at hC
 have hct:=h.v.nm.ct
 rw[h.st,List.length_nil] at hC
 refine⟨h.v.g,fun x=>⟨fun hx=>?_,hp x⟩,by omega,fun l hl=>⟨h.d l hl,fun x hx=>?_⟩⟩
 ·rcases h.v.g.vi x (h.dn x hx) with k|k
  ·rw[h.st] at k;cases k
  ·exact k
 ·obtain⟨k,hk,rfl⟩:=List.mem_iff_getElem.1 hl
  refine hp x ?_
  rw[(h.v.g.me k x).2 ⟨_,gL hk,hx⟩]
  simp
def Nm (xc:List AV) (es:List (List gP)):List (Nat×aX):=[(210, .box 107 [.pd xc, .sl [] pM es, .nilsl, .nilsl])]
def Ow (xc:List AV) (es:List (List gP)) (t:TS):List (Nat×aX):=[(210, .box 107 [.pd xc, .sl [] pM es, .row 214 es.length 1, .row 215 t.inn.length 1]),(214,bG (eW es.length t.pt)),(215,cJ (t.inn.map bM))]
theorem C1 (n:Nat):kV n (fun _=>0)=List.replicate n 0:=by
 unfold kV
 refine List.ext_getElem (by simp) fun i h1 h2=>?_
 simp
theorem C2 (n:Nat):eW n (fun _=>none)=List.replicate n (-1):=by
 unfold eW
 refine List.ext_getElem (by simp) fun i h1 h2=>?_
 simp
theorem Ir (xc:List AV) (es:List (List gP)) (hes:zZ es):
  an Tryz.prog 88 [.ptr 210 0] (ai.ofL (Nm xc es)) (fun u M=>u= .tup []/\∃t,Bt (ph es) es.length es.length t/\M=ai.ofL (Ow xc es t)):=by
 have hn:=hes.n
 have hE:=hes.lt
 refine an.renorm 400 (R:=fun u M=>u= .tup []/\∃t,Bt (ph es) es.length es.length t/\dK [(210, .old 210),(214, .old 214),(215, .old 225)] 400 M (Ow xc es t)) ?_ ?_
 case refine_2=>
  rintro u M' ⟨rfl,t,h1,h2⟩
  exact⟨_,_, .tup [],rfl,h2,trivial,rfl,t,h1,rfl⟩
 refine an.introW ab (Nm xc es) Tryz.func88 rfl (by decide) ?_
 dsimp only[mv,List.append,List.length,Nat.sub]
 refine aE.seqC ab ac ?_
 conv=>whnf
 refine yU ?_
 conv=>whnf
 refine aE.seqC ab ac ?_
 conv=>whnf
 refine aE.seqS (fr2:=[.ptr 210 0, .ptr 1 0, .int .i64 (es.length:Int), .ptr 3 0, .ptr 4 0]++List.replicate 32 .top) (M2:=ai.ofL ([(1, .box 101 [.ptr 210 0]),(3, .box 24 [.row 15 es.length 1]),(4, .box 24 [.row 17 es.length 1]),(15,bG (List.replicate es.length 0)),(17,bG (List.replicate es.length 0))]++Nm xc es)) ab ac ?_ ?_
 ·conv=>whnf
  refine sk [0,2] (by decide+kernel) ?_
  conv=>whnf
  repeat' first
   |(refine⟨rfl,?_⟩
     exact aM.by_ [(1, .old 1),(3, .old 3),(4, .old 4),(15, .old 15),(17, .old 17),(210, .old 210)] _ 400 rfl (aa) (aa))
   |exact True.intro
   |(refine And.intro ?_ ?_<;>conv=>whnf)
   |(refine ww 0 aD 0 rfl (by dsimp only;omega) ?_;rw[tN];conv=>whnf)
   |fail
 refine aE.seqS (fr2:=[.ptr 210 0, .ptr 1 0, .int .i64 (es.length:Int), .ptr 3 0, .ptr 4 0]++List.replicate 32 .top) (M2:=ai.ofL ([(1, .box 101 [.ptr 210 0]),(3, .box 24 [.row 15 es.length 1]),(4, .box 24 [.row 17 es.length 1]),(15,bG (List.replicate es.length 0)),(17,bG (List.replicate es.length 0)),(210, .box 107 [.pd xc, .sl [] pM es, .row 20 es.length 1, .nilsl]),(20,bG (List.replicate es.length (-1)))])) ab ac ?_ ?_
 ·conv=>whnf
  refine sk [1,3,4] (by decide+kernel) ?_
  conv=>whnf
  repeat' first
   |(refine⟨rfl,?_⟩
     exact aM.by_ [(1, .old 1),(3, .old 3),(4, .old 4),(15, .old 15),(17, .old 17),(210, .old 210),(20, .old 20)] _ 400 rfl (aa) (aa))
   |exact True.intro
   |(refine And.intro ?_ ?_<;>conv=>whnf)
   |(refine an.fresh 20 (MU es.length hn) rfl (aa) ?_;conv=>whnf)
   |fail
 refine aZ ab ac _ _ _ _ ?_
 conv=>whnf
 refine aE.loopF ab ac (fun z:Nat×TS=>z.1<=es.length/\Bt (ph es) es.length z.1 z.2) (fun z=>[(2, .int .i64 (es.length:Int)),(3, .ptr 201 0),(4, .ptr 202 0),(5, .ptr 203 0),(6, .ptr 200 0),(7, .ptr 205 0),(1, .ptr 204 0),(23, .top),(25, .int .i64 (z.1:Int))]) (fun z=>GF xc es z.2) (fun z=>es.length-z.1) (0,Lc) ⟨Nat.zero_le _,Bt.zero _ _⟩ ?_;conv=>whnf
 refine⟨?_,?_⟩
 ·dsimp only
  unfold GF Jn Io Lc
  dsimp only
  rw[C1,C2]
  exact aM.by_ [(200, .old 6),(201, .old 3),(202, .old 4),(203, .old 5),(204, .old 1),(205, .old 7),(210, .old 210),(211, .old 15),(212, .old 17),(214, .old 20),(213, .old 6),(215, .old 6),(223, .nil 1),(225, .nil 1)] _ 400 rfl (aa) (aa)
 rintro⟨k,s⟩ ⟨hk,hO⟩
 dsimp only at hk hO⊢
 conv=>whnf
 refine ah ?_ ?_<;>(intro g1;conv=>whnf)
 ·have hkl:k<es.length:=by omega
  have hix:=il hkl s.ix
  refine nI ?_
  rw[tN]
  conv=>whnf
  refine ah ?_ ?_<;>(intro g2;conv=>whnf)
  ·have h0:s.ix k=0:=by omega
   refine an.call ([(213, .old 223),(215, .old 225)]++K9) (Nl xc es s) 400 rfl (aa) (aa) (Ou xc es hes _ k s hkl h0 hO.v (Nat.le_refl _)) ?_
   rintro u M' ⟨rfl,t,hT,rfl⟩
   refine⟨[(223, .old 213),(225, .old 215),(233, .old 223),(235, .old 225)]++K9,Oq xc es (dG k t), .tup [],rfl,(aa),trivial,?_⟩
   have hstep:=hO.step hE hkl h0 hT
   generalize dG k t=t2 at hstep⊢
   conv=>whnf
   repeat' ((first|refine nI ?_|refine aI ?_|refine tI ?_|refine fI ?_|fail);conv=>whnf)
   refine⟨(k+1,t2),?_,⟨by dsimp only;omega,hstep⟩,by dsimp only;omega⟩
   dsimp only
   exact aM.by_ (Jo 233 235) _ 400 rfl (aa) (aa)
  ·have h0:s.ix k≠0:=by omega
   repeat' ((first|refine nI ?_|refine aI ?_|refine tI ?_|refine fI ?_|fail);conv=>whnf)
   refine⟨(k+1,s),?_,⟨by dsimp only;omega,hO.skip h0⟩,by dsimp only;omega⟩
   dsimp only
   exact aM.by_ (Jo 223 225) _ 400 rfl (aa) (aa)
 ·obtain rfl:k=es.length:=by omega
  exact⟨rfl,s,hO,(aa)⟩
end Go.Proofs.YtokjgegkhlkopaaGreatDoor
