import Derived.Test.YtokjgegkhlkopaaGreatDoorLaHJ
import Derived.Test.YtokjgegkhlkopaaGreatDoorMH
set_option linter.unusedVariables false
set_option linter.unusedSimpArgs false
namespace Go.Proofs.YtokjgegkhlkopaaGreatDoor
section
set_option maxRecDepth 100000
set_option maxHeartbeats 16000000
theorem Gj (l:List ap) (o:List Int) (c:ap) (x1 x2 x3 x4 x5:AV) (hs:vU l o) (hl:l.length<=100000000) (hw:∀d∈l,bc d=false):
  ae Tryz.prog 56 [.pd [.sl aC bg l, .sl 0 aD o,x1,x2,x3,x4,x5], .agg (bg c)] (fun u=>∃(a:Nat) (is:Bool),KQ l o c a is/\u= .tup [.int .i64 (a:Int), .bool is]):=by
 have hol:=hs.len
 have hsl:=qj l o
 refine ae.intro ab ac Tryz.func56 rfl (by decide) ?_;(conv=>whnf)
 refine am rfl ?_
 conv=>whnf
 refine dI ?_
 conv=>whnf
 refine aE.loopF ab ac (fun z:Nat×Nat=>z.1<=z.2/\z.2<=o.length/\(∀j,j<z.1->fX ((tg l o).getD j aC) c<0)/\∀j,z.2<=j->j<o.length->0<fX ((tg l o).getD j aC) c) (fun z=>[(6, .int .i64 (z.1:Int)),(7, .int .i64 (z.2:Int))]) (fun _=>[]) (fun z=>z.2-z.1) (0,o.length) ⟨Nat.zero_le _,Nat.le_refl _,fun j hj=>absurd hj (Nat.not_lt_zero _),fun j h1 h2=>absurd h2 (Nat.not_lt.2 h1)⟩ ?_;conv=>whnf
 refine⟨sI,?_⟩
 rintro⟨a,b⟩ ⟨h1,h2,h3,h4⟩
 dsimp only at h1 h2 h3 h4⊢
 conv=>whnf
 refine ah ?_ ?_<;>(intro g1;conv=>whnf)
 case refine_2=>
  obtain rfl:a=b:=by omega
  exact⟨⟨a,false,⟨h2,h3,(fun h=>by cases h),fun _=>h4⟩,rfl⟩,rfl⟩
 have hab:a<b:=by omega
 obtain⟨m,hm⟩:∃m,m=(a+b) / 2:=⟨_,rfl⟩
 have hmt:((a:Int)+(b:Int)).tdiv 2=(m:Int):=by
  rw[Int.tdiv_eq_ediv_of_nonneg (by omega)]
  omega
 have hma:a<=m:=by omega
 have hmb:m<b:=by omega
 refine aI ?_
 conv=>whnf
 refine JC (by decide) (by rw[hmt];omega) ?_
 rw[hmt]
 conv=>whnf
 have hr:=hs.at_ (j:=m) (by omega)
 have hd:=Bf l (o:=o) (j:=m) (by omega)
 refine dI ?_
 conv=>whnf
 refine nI ?_
 rw[tN]
 conv=>whnf
 refine nI ?_
 conv=>whnf
 have hwd:bc (l.getD (o.getD m 0).toNat aC)=false:=hw _ (aG aC (by omega))
 rw[<-hd] at hwd⊢
 (refine oC (rl ((tg l o).getD m aC) c hwd) ?_;conv=>whnf)
 refine ah ?_ ?_<;>(intro g2;conv=>whnf)
 ·refine⟨⟨m,true,⟨by omega,fun j hj=>?_,fun _=>⟨by omega,g2⟩,(fun h=>by cases h)⟩,rfl⟩,rfl⟩
  have e:=mj g2
  have:=vV hs.asc hj (by omega)
  rw[e] at this
  exact this
 refine ah ?_ ?_<;>(intro g3;conv=>whnf)
 ·repeat' ((first|refine nI ?_|refine aI ?_|refine tI ?_|refine fI ?_|fail);conv=>whnf)
  refine⟨(m+1,b),sI,⟨by dsimp only;omega,h2,fun j hj=>?_,h4⟩,by dsimp only;omega⟩
  dsimp only at hj
  by_cases e:j=m
  ·subst e;exact g3
  ·exact m3 (vV hs.asc (show j<m by omega) (by omega)) g3
 ·repeat' ((first|refine nI ?_|refine aI ?_|refine tI ?_|refine fI ?_|fail);conv=>whnf)
  refine⟨(a,m),sI,⟨hma,by dsimp only;omega,h3,fun j hj1 hj2=>?_⟩,by dsimp only;omega⟩
  dsimp only at hj1
  by_cases e:j=m
  ·subst e;omega
  ·have k1:=vV hs.asc (show m<j by omega) (by omega)
   have k2:fX c ((tg l o).getD m aC)<0:=by rw[rm];omega
   have k3:=m3 k2 k1
   rw[rm] at k3
   omega
theorem MZ (l:List ap) (o:List Int) (c:ap) (x1 x2 x3 x4 x5:AV) (hs:vU l o) (hl:l.length<=100000000) (hw:∀d∈l,bc d=false):
  ae Tryz.prog 24 [.pd [.sl aC bg l, .sl 0 aD o,x1,x2,x3,x4,x5], .agg (bg c)] (fun u=>(∃i:Nat,i<l.length/\l.getD i aC=c/\u= .int .i64 (i:Int))\/(c∉l/\u= .int .i64 (-1))):=by
 have hol:=hs.len
 refine ae.intro ab ac Tryz.func24 rfl (by decide) ?_;(conv=>whnf)
 refine am rfl ?_
 conv=>whnf
 refine an.of_pure (n:=5) (Gj l o c x1 x2 x3 x4 x5 hs hl hw) rfl ?_
 rintro _ ⟨a,is,hP,rfl⟩
 cases is with
 |false=>
  conv=>whnf
  exact⟨.inr ⟨fun h=>(by have:=(hP.mem hs).2 h;cases this),rfl⟩,rfl⟩
 |true=>
  have ha:=(hP.yes rfl).1
  have hr:=hs.at_ ha
  have he:=hP.at_
  conv=>whnf
  refine nI ?_
  rw[tN]
  conv=>whnf
  refine⟨.inl ⟨(o.getD a 0).toNat,by omega,he,?_⟩,rfl⟩
  rw[Int.toNat_of_nonneg hr.1]
  rfl
def uE (l:List aQ):List AV:=[.sl aR cH l]
def Gk (l:List (List aQ)):aX:=.row 39 [] uE l
def Lj (p:ao) (s:az) (a b n m k:Nat):aX:=.box 71 [.str p.name, .int .i64 p.topology, .sl t0 cR p.states, .sl t0 cR p.messages, .sl t0 cR p.values, .int .i64 p.fault, .sl i0 eE p.resilience, .sl 0 aD p.initial, .sl 0 aD p.leader, .sl au fD p.rules, .int .i64 s.n, .int .i64 s.t, .int .i64 s.f, .row a n 6, .row b m 1, .row 7008 k 1, .row 7009 k 1, .nilsl, .nilsl, .nilsl]
def GH (p:ao) (s:az) (l:List ap) (o:List Int) (ss:List (List aQ)) (tt:List (List Int)):List (Nat×aX):=[(7001,Lj p s 7002 7003 l.length o.length ss.length),(7002,kS l),(7003,bG o),(7008,Gk ss),(7009,cJ tt)]
def LE (p:ao) (s:az) (l:List ap) (o:List Int) (ss:List (List aQ)) (tt:List (List Int)):List (Nat×aX):=[(7001,Lj p s 7004 7005 l.length o.length ss.length),(7002, .dead),(7003, .dead),(7004,kS l),(7005,bG o),(7008,Gk ss),(7009,cJ tt)]
def N1 (p:ao) (s:az) (l:List ap) (o:List Int) (ss:List (List aQ)) (tt:List (List Int)) (c:ap) (i:Nat):List (Nat×aX):=[(7001,Lj p s 7004 7005 (l.length+1) (o.length+1) ss.length),(7002, .dead),(7003, .dead),(7004,kS (l++[c])),(7005,bG (F0 o i)),(7008,Gk ss),(7009,cJ tt)]
def M4:b8:=[(7001, .old 7001),(7002, .old 7002),(7003, .old 7003),(7004, .old 7002),(7005, .old 7003),(7008, .old 7008),(7009, .old 7009)]
def M5:b8:=[(7001, .old 7001),(7002, .old 7002),(7003, .old 7003),(7004, .old 7004),(7005, .old 7005),(7008, .old 7008),(7009, .old 7009)]
theorem Ju (p:ao) (s:az) (l:List ap) (o:List Int) (ss:List (List aQ)) (tt:List (List Int)) (c:ap) (htt:tt.length=ss.length) (hs:vU l o) (hl:l.length<=100000000) (hw:∀d∈l,bc d=false):
  an Tryz.prog 52 [.ptr 7001 13, .agg (bg c)] (ai.ofL (GH p s l o ss tt)) (fun u M=>∃(o':List Int) (b:Bool),vU (pP l c) o'/\(b=true↔c∉l)/\u= .bool b/\M=ai.ofL (LE p s (pP l c) o' ss tt)):=by
 have hol:=hs.len
 refine an.renorm 400 (R:=fun u M=>∃(o':List Int) (b:Bool),vU (pP l c) o'/\(b=true↔c∉l)/\u= .bool b/\(dK M4 400 M (LE p s (pP l c) o' ss tt)\/dK M5 400 M (LE p s (pP l c) o' ss tt))) ?_ ?_
 case refine_2=>
  rintro u M ⟨o',b,h1,h2,rfl,h3|h3⟩
  ·exact⟨M4,_, .bool b,rfl,h3,rfl,o',b,h1,h2,rfl,rfl⟩
  ·exact⟨M5,_, .bool b,rfl,h3,rfl,o',b,h1,h2,rfl,rfl⟩
 refine an.intro ab ac (GH p s l o ss tt) Tryz.func52 rfl (by decide) ?_
 conv=>whnf
 refine am rfl ?_
 conv=>whnf
 refine an.borD (R:=fun u=>∃(a:Nat) (is:Bool),KQ l o c a is/\u= .tup [.int .i64 (a:Int), .bool is]) [7001,7002,7003] 3 (Gj l o c .top .top .nilsl .nilsl .nilsl hs hl hw) (by rintro _ ⟨a,is,_,rfl⟩;rfl) ?_
 rintro _ ⟨a,is,hP,rfl⟩
 cases is with
 |true=>
  have hm:=(hP.mem hs).1 rfl
  conv=>whnf
  refine⟨o,false,?_,⟨(fun h=>by cases h),fun h=>absurd hm h⟩,rfl, .inl ?_⟩
  ·rw[vZ hm];exact hs
  ·rw[vZ hm];exact(aa)
 |false=>
  have hm:c∉l:=fun h=>by have:=(hP.mem hs).2 h;cases this
  have hle:=hP.le
  conv=>whnf
  refine IY (by decide+kernel) ?_
  conv=>whnf
  refine cA aC bg [c] rfl ?_
  conv=>whnf
  refine iH ?_
  conv=>whnf
  refine cB [c] rfl lI ?_
  conv=>whnf
  refine cB [(0:Int)] rfl lI ?_
  conv=>whnf
  refine JC trivial lI ?_
  conv=>whnf
  refine aE.loopF ab ac (fun i:Nat=>a<=i/\i<=o.length) (fun i=>[(7, .int .i64 (i:Int)),(21, .top),(22, .top),(30, .top),(31, .top),(37, .top)]) (fun i=>N1 p s l o ss tt c i) (fun i=>i) o.length ⟨hle,Nat.le_refl _⟩ ?_;conv=>whnf
  refine⟨by unfold N1;rw[CY];exact aM.by_ [(7001, .old 7001),(7002, .old 7002),(7003, .old 7003),(7004, .old 22),(7005, .old 31),(7008, .old 7008),(7009, .old 7009)] _ 400 rfl (aa) (aa),?_⟩
  rintro i ⟨hi1,hi2⟩
  conv=>whnf
  refine ah ?_ ?_<;>(intro g1;conv=>whnf)
  ·have hup:=KY (o:=o) (i:=i-1) (by omega)
   rw[show i-1+1=i by omega] at hup
   refine dI ?_
   conv=>whnf
   refine aI ?_
   conv=>whnf
   refine nI ?_
   rw[show((i:Int)-1).toNat=i-1 by omega]
   conv=>whnf
   refine nI ?_
   rw[tN]
   conv=>whnf
   refine ak _ rfl ?_
   conv=>whnf
   repeat' ((first|refine nI ?_|refine aI ?_|refine tI ?_|refine fI ?_|fail);conv=>whnf)
   refine⟨i-1,?_,by omega,by dsimp only;omega⟩
   dsimp only
   unfold N1
   rw[<-hup]
   exact sI
  ·obtain rfl:i=a:=by omega
   refine dI ?_
   conv=>whnf
   refine aI ?_
   rw[show((l.length+1:Nat):Int)-1=(l.length:Int) by omega]
   conv=>whnf
   refine nI ?_
   rw[tN]
   conv=>whnf
   refine ak _ rfl ?_
   conv=>whnf
   refine⟨sc o i l.length,true,?_,⟨fun _=>hm,fun _=>rfl⟩,rfl, .inr ?_⟩
   ·rw[zW hm];exact hs.ins hP
   ·rw[zW hm,<-Ij _ hle]
    have hlen2:((F0 o i).set i (l.length:Int)).length=o.length+1:=by rw[List.length_set,gH]
    unfold LE
    rw[hlen2]
    exact(aa)
set_option maxHeartbeats 4000000
theorem mr (l:List ap) (c:ap):(pP l c=l/\c∈l)\/(pP l c=l++[c]/\c∉l):=by
 by_cases h:c∈l
 ·exact .inl ⟨vZ h,h⟩
 ·exact .inr ⟨zW h,h⟩
theorem Gm (l:List ap) (c:ap):c∈pP l c:=by
 rcases mr l c with ⟨e,h⟩|⟨e,h⟩<;>rw[e]
 ·exact h
 ·exact List.mem_append_right _ (List.mem_singleton.2 rfl)
theorem Bw {l:List ap} {c d:ap} (h:d∈l):d∈pP l c:=by
 rcases mr l c with ⟨e,_⟩|⟨e,_⟩<;>rw[e]
 ·exact h
 ·exact List.mem_append_left _ h
theorem z4 {l:List ap} {c d:ap} (h:d∈pP l c):d∈l\/d=c:=by
 rcases mr l c with ⟨e,_⟩|⟨e,_⟩<;>rw[e] at h
 ·exact .inl h
 ·rcases List.mem_append.1 h with h|h
  ·exact .inl h
  ·exact .inr (List.mem_singleton.1 h)
theorem uF {l:List ap} {c:ap} (h:l.Nodup):(pP l c).Nodup:=by
 rcases mr l c with ⟨e,_⟩|⟨e,k⟩<;>rw[e]
 ·exact h
 ·rw[List.nodup_append]
  exact⟨h,by simp,fun a ha b hb e=>k (by rw[<-List.mem_singleton.1 hb,<-e];exact ha)⟩
theorem oy (l:List ap) (c:ap):l.length<=(pP l c).length/\(pP l c).length<=l.length+1:=by
 rcases mr l c with ⟨e,_⟩|⟨e,_⟩<;>rw[e]
 ·omega
 ·rw[List.length_append,List.length_singleton];omega
theorem lT {l:List ap} {c:ap} {i:Nat} (h:i<l.length):(pP l c).getD i aC=l.getD i aC:=by
 rcases mr l c with ⟨e,_⟩|⟨e,_⟩<;>rw[e]
 rw[gD,List.getElem?_append_left h,gD]
section
variable {p:ao} {q:bn} {s:az} {l frst:List ap} {ss:List (List aQ)} {tt:List (List Int)}
structure Iv (p:ao) (q:bn) (s:az) (frst l:List ap) (k:Nat):Prop where
 nd:l.Nodup
 ini:∀c∈l,lH p q s c
 dn:∀j,j<k->frst.getD j aC∈l
 le:l.length<=k
theorem Iv.zero:Iv p q s frst List.nil 0:=⟨List.nodup_nil,fun _ h=>(nomatch h),fun _ h=>absurd h (Nat.not_lt_zero _),Nat.le_refl _⟩
theorem Iv.next {k:Nat} (h:Iv p q s frst l k) (hi:lH p q s (frst.getD k aC)):Iv p q s frst (pP l (frst.getD k aC)) (k+1):=by
 refine⟨uF h.nd,fun c hc=>?_,fun j hj=>?_,?_⟩
 ·rcases z4 hc with hc|rfl
  ·exact h.ini c hc
  ·exact hi
 ·by_cases e:j=k
  ·subst e;exact Gm _ _
  ·exact Bw (h.dn j (by omega))
 ·have:=oy l (frst.getD k aC)
  have:=h.le
  omega
theorem Iv.fin (h:Iv p q s frst l frst.length) (hf:∀c,lH p q s c->c∈frst):lS p q s l [] []:=by
 refine⟨h.nd,fun c hc=>⟨0, .ini (h.ini c hc)⟩,fun c hc=>?_,Nat.zero_le _,rfl,fun k hk=>absurd hk (Nat.not_lt_zero _),fun k hk=>absurd hk (Nat.not_lt_zero _)⟩
 obtain⟨j,hj,rfl⟩:=bp aC (hf c hc)
 exact h.dn j hj
theorem lS.wideT (S:fV p q s) (h:lS p q s l ss tt):∀d∈l,bc d=false:=fun d hd=>by
 obtain⟨n,hw⟩:=h.rp d hd
 exact(hw.rdy S).wide
theorem lS.addT {d:ap} (h:lS p q s l ss tt) (hd:∃n,Wn p q s n d):lS p q s (pP l d) ss tt:=by
 have hl:=oy l d
 have hle:=h.le
 refine⟨uF h.nd,fun c hc=>?_,fun c hc=>Bw (h.ini c hc),by omega,h.tl,fun k hk=>?_,fun k hk=>?_⟩
 ·rcases z4 hc with hc|rfl
  ·exact h.rp c hc
  ·exact hd
 ·rw[lT (by omega)];exact h.st k hk
 ·rw[lT (by omega)]
  obtain⟨a,b⟩:=h.ed k hk
  refine⟨a,fun m hm=>?_⟩
  obtain⟨j,c1,c2,c3⟩:=b m hm
  exact⟨j,c1,by omega,by rw[lT c2];exact c3⟩
structure Jv (p:ao) (q:bn) (s:az) (l:List ap) (ss:List (List aQ)) (tt:List (List Int)) (c:ap) (xs:List aQ) (to:List Int) (j:Nat):Prop where
 k:lS p q s l ss tt
 lt:ss.length<l.length
 at_:l.getD ss.length aC=c
 tl:to.length=j
 ou:∀m,m<j->∃i:Nat,to.getD m 0=(i:Int)/\i<l.length/\bo c (aH p (xs.getD m aR)) (xs.getD m aR)/\l.getD i aC=cb c (aH p (xs.getD m aR)) (xs.getD m aR)
theorem lS.opnT {c:ap} {xs:List aQ} (h:lS p q s l ss tt) (hl:ss.length<l.length) (hc:l.getD ss.length aC=c):Jv p q s l ss tt c xs [] 0:=⟨h,hl,hc,rfl,fun m hm=>absurd hm (Nat.not_lt_zero _)⟩
theorem Jv.nextT {c:ap} {xs:List aQ} {to:List Int} {j i:Nat} (h:Jv p q s l ss tt c xs to j) (he:cz p s c (xs.getD j aR) false) (ha:bo c (aH p (xs.getD j aR)) (xs.getD j aR))
  (hi:i<(pP l (cb c (aH p (xs.getD j aR)) (xs.getD j aR))).length) (hg:(pP l (cb c (aH p (xs.getD j aR)) (xs.getD j aR))).getD i aC=cb c (aH p (xs.getD j aR)) (xs.getD j aR)):
  Jv p q s (pP l (cb c (aH p (xs.getD j aR)) (xs.getD j aR))) ss tt c xs (to++[(i:Int)]) (j+1):=by
 have hl:=oy l (cb c (aH p (xs.getD j aR)) (xs.getD j aR))
 have hlt:=h.lt
 have htl:=h.tl
 refine⟨h.k.addT ?_,by omega,by rw[lT h.lt];exact h.at_,by rw[List.length_append,h.tl];rfl,fun m hm=>?_⟩
 ·obtain⟨n,hw⟩:=h.k.rp c (by rw[<-h.at_];exact aG aC h.lt)
  exact⟨n+1, .stp _ hw he ha⟩
 ·rw[cY]
  by_cases e:m=j
  ·subst e
   rw[if_neg (by omega),if_pos (by omega)]
   exact⟨i,rfl,hi,ha,hg⟩
  ·rw[if_pos (by omega)]
   obtain⟨i',a1,a2,a3,a4⟩:=h.ou m (by omega)
   exact⟨i',a1,by omega,a3,by rw[lT a2];exact a4⟩
theorem Jv.doneT {c:ap} {to:List Int} (h:Jv p q s l ss tt c (d9 p s c p.rules.length) to (d9 p s c p.rules.length).length):lS p q s l (ss++[d9 p s c p.rules.length]) (tt++[to]):=by
 have hlt:=h.lt
 have htl:=h.k.tl
 have hat:=h.at_
 refine⟨h.k.nd,h.k.rp,h.k.ini,by rw[List.length_append,List.length_singleton];omega,by rw[List.length_append,List.length_append,htl];rfl,fun k hk=>?_,fun k hk=>?_⟩
 ·rw[List.length_append,List.length_singleton] at hk
  rw[cY]
  by_cases e:k=ss.length
  ·subst e
   rw[if_neg (by omega),if_pos rfl,hat]
   exact fun x hx=>kI.2 hx
  ·rw[if_pos (by omega)];exact h.k.st k (by omega)
 ·rw[List.length_append,List.length_singleton] at hk
  have e1:∀k,k<ss.length->(tt++[to]).getD k []=tt.getD k []:=fun k hk=>by rw[cY,if_pos (by omega)]
  have e2:∀k,k<ss.length->(ss++[d9 p s c p.rules.length]).getD k []=ss.getD k []:=fun k hk=>by rw[cY,if_pos (by omega)]
  have e3:(tt++[to]).getD ss.length []=to:=by rw[cY,if_neg (by omega),if_pos (by omega)]
  have e4:(ss++[d9 p s c p.rules.length]).getD ss.length []=d9 p s c p.rules.length:=by rw[cY,if_neg (by omega),if_pos (by omega)]
  by_cases e:k=ss.length
  ·subst e
   rw[e3,e4,hat]
   refine⟨h.tl,fun m hm=>?_⟩
   obtain⟨i,a1,a2,a3,a4⟩:=h.ou m hm
   exact⟨i,a1,a2,kI.1 (aG aR hm),a3,a4⟩
  ·rw[e1 k (by omega),e2 k (by omega)];exact h.k.ed k (by omega)
theorem lS.many (S:fV p q s) (h:lS p q s l ss tt) (hl:4000<l.length):¬F7 p q s:=by
 rintro⟨_,L,hC,hL⟩
 have:∀c∈l,c∈L:=fun c hc=>by
  obtain⟨n,hw⟩:=h.rp c hc
  obtain⟨z,hz,ez⟩:=List.mem_map.1 (hC.all S hw)
  have ez:z=c:=ez
  rw[<-ez];exact hz
 have:=oj h.nd this
 omega
theorem lS.bad (S:fV p q s) (h:lS p q s l ss tt) {c:ap} (hc:c∈l) {x:aQ} (he:cz p s c x false) (ha:¬bo c (aH p x) x):¬F7 p q s:=by
 rintro⟨_,L,hC,_⟩
 obtain⟨n,hw⟩:=h.rp c hc
 exact ha (hC.ok S (hw.rp S) he)
theorem lS.okT (S:fV p q s) (h:lS p q s l ss tt) (hl:ss.length=l.length) (hn:l.length<=4000) (hi:om p q s):F7 p q s:=by
 have em:l.map (eV p true)=l:=(List.map_congr_left fun c _=>rfl).trans (List.map_id' l)
 refine⟨hi,l,⟨fun c hc=>?_,by rw[em];exact h.nd,fun c hc=>by rw[em];exact h.ini c hc,fun c hc x he=>?_⟩,hn⟩
 ·obtain⟨n,hw⟩:=h.rp c hc
  exact hw.rp S
 ·obtain⟨k,hk,rfl⟩:=bp aC hc
  obtain⟨m,hm,rfl⟩:=bp aR (h.st k (by omega) x he)
  obtain⟨j,_,a2,_,a4,a5⟩:=(h.ed k (by omega)).2 m hm
  refine⟨a4,?_⟩
  rw[em]
  show cb _ _ _∈l
  rw[<-a5]
  exact aG aC a2
end
end
section
section
variable {P:Program} {tt:TT} {D:List Nat} {M:ai}
theorem aE.loopW {c:Code} {fr:List AV} {Q:bR} {X:Type _} (I:X->Prop) (us:X->List (Nat×AV)) (L:X->List (Nat×aX)) (μ:X->Nat) (x0:X) (hi:I x0)
  (h:mQ (jO c []) fun ms=>ny fr 0 ms fun fr0=>aM D fr M (jh fr0 (us x0)) (ai.ofL (L x0))/\
   ∀x,I x->q6 fr0 (us x) fun fr1=>aE P D c fr1 (ai.ofL (L x)) (jK D I (fun x=>jh fr0 (us x)) (fun x=>ai.ofL (L x)) μ x Q)):aE P D (.loop c) fr M Q:=by
 rw[jP] at h
 obtain⟨fr0,h0,h⟩:=iJ _ _ _ _ h
 refine aE.loop I (fun x=>jh fr0 (us x)) (fun x=>ai.ofL (L x)) μ x0 hi h0 fun x hx=>?_
 have:=h x hx
 rw[ll] at this
 exact this
theorem aE.blockW {id:Nat} {c:Code} {fr:List AV} {Q:bR} (hx:aE P D c fr M fun e fr' M'=>match e with
  |.normal=>Q .normal fr' M'
  |.exit i=>match Nat.beq i id with
   |true=>Q .normal fr' M'
   |false=>Q (.exit i) fr' M'
  |.ret=>Q .ret fr' M'):aE P D (.block id c) fr M Q:=by
 rw[cp] at hx⊢
 intro S F ρ0 ρ act w h0 h1 hM hF
 refine wp_block (wp_mono (hx S F ρ0 ρ act w h0 h1 hM hF) ?_)
 rintro e a' w' ⟨ex,he,f,M',S',ρ',k,k1,k2,k3,k4,k5⟩
 cases e with
 |normal=>cases he;exact⟨_,rfl,f,M',S',ρ',k,k1,k2,k3,k4,k5⟩
 |exit i=>
  cases he
  simp only[Exit.inBlock]
  simp only at k
  split at k
  ·rename_i hb
   rw[if_pos (Nat.eq_of_beq_eq_true hb)]
   exact⟨_,rfl,f,M',S',ρ',k,k1,k2,k3,k4,k5⟩
  ·rename_i hb
   rw[if_neg (fun e=>by subst e;simp at hb)]
   exact⟨_,rfl,f,M',S',ρ',k,k1,k2,k3,k4,k5⟩
 |ret=>cases he;exact⟨_,rfl,f,M',S',ρ',k,k1,k2,k3,k4,k5⟩
 |goto l=>cases he
 |panic l=>cases he
 |outgrown=>cases he
end
end
section
set_option maxRecDepth 100000
set_option maxHeartbeats 16000000
def OB (p:ao) (s:az):List (Nat×aX):=[(7001, .box 71 [.str p.name, .int .i64 p.topology, .sl t0 cR p.states, .sl t0 cR p.messages, .sl t0 cR p.values, .int .i64 p.fault, .sl i0 eE p.resilience, .sl 0 aD p.initial, .sl 0 aD p.leader, .sl au fD p.rules, .int .i64 s.n, .int .i64 s.t, .int .i64 s.f, .nilsl, .nilsl, .nilsl, .nilsl, .nilsl, .nilsl, .nilsl])]
def Lk:b8:=[(7001, .old 7001),(7002, .old 7002),(7003, .old 7003),(7008, .old 7008),(7009, .old 7009)]
abbrev OU:=List ap×List Int×List (List aQ)×List (List Int)
theorem Iw {p:ao} {s:az} {c:ap} (h:c9 p s c):(d9 p s c p.rules.length).length<=20000000:=by
 have hc:=aL h.wide
 have hle:=aF h.big
 have h1:=ob p s c p.rules.length
 have h2:c.states.length*(c.states.length+1)<=100*101:=Nat.mul_le_mul (by omega) (by omega)
 have h3:p.rules.length*(c.states.length*(c.states.length+1))<=1000*(100*101):=Nat.mul_le_mul (by omega) h2
 omega
def yq (ss:List (List aQ)):Prop:=∀x∈ss,x.length<=20000000
theorem yq.snoc {ss:List (List aQ)} {x:List aQ} (h:yq ss) (hx:x.length<=20000000):yq (ss++[x]):=fun y hy=>by
 rcases List.mem_append.1 hy with hy|hy
 ·exact h y hy
 ·rw[List.mem_singleton.1 hy];exact hx
theorem N2 (p:ao) (q:bn) (s:az) (S:fV p q s) (frst:List ap) (hf1:∀c∈frst,lH p q s c) (hf2:∀c,lH p q s c->c∈frst) (hfl:frst.length<=1000000):
  an Tryz.prog 22 [.ptr 7001 0, .sl aC bg frst] (ai.ofL (OB p s)) (fun u M=>∃l o ss tt,lS p q s l ss tt/\vU l o/\((ss.length=l.length/\(l.length<=4000/\yq ss)/\u= .bool true)\/(¬F7 p q s/\u= .bool false))/\M=ai.ofL (GH p s l o ss tt)):=by
 refine an.renorm 400 (R:=fun u M=>∃l o ss tt,lS p q s l ss tt/\vU l o/\((ss.length=l.length/\(l.length<=4000/\yq ss)/\u= .bool true)\/(¬F7 p q s/\u= .bool false))/\dK Lk 400 M (GH p s l o ss tt)) ?_ ?_
 case refine_2=>
  rintro u M ⟨l,o,ss,tt,h1,h2,⟨h3,h4,rfl⟩|⟨h3,rfl⟩,h5⟩
  ·exact⟨Lk,_, .bool true,rfl,h5,rfl,l,o,ss,tt,h1,h2, .inl ⟨h3,h4,rfl⟩,rfl⟩
  ·exact⟨Lk,_, .bool false,rfl,h5,rfl,l,o,ss,tt,h1,h2, .inr ⟨h3,rfl⟩,rfl⟩
 refine an.intro ab ac (OB p s) Tryz.func22 rfl (by decide) ?_
 conv=>whnf
 refine aE.loopF ab ac (fun z:Nat×List ap×List Int=>z.1<=frst.length/\Iv p q s frst z.2.1 z.1/\vU z.2.1 z.2.2) (fun z=>[(5, .int .i64 (z.1:Int))]) (fun z=>GH p s z.2.1 z.2.2 [] []) (fun z=>frst.length-z.1) (0,[],[]) ⟨Nat.zero_le _,Iv.zero,⟨rfl,fun i hi=>absurd hi List.not_mem_nil,fun i hi=>absurd hi (Nat.not_lt_zero _),List.Pairwise.nil⟩⟩ ?_;conv=>whnf
 refine⟨aM.by_ [(7001, .old 7001),(7002, .nil 6),(7003, .nil 1),(7008, .nil 1),(7009, .nil 1)] _ 400 rfl (aa) (aa),?_⟩
 rintro⟨k,l,o⟩ ⟨hk,hF,hs⟩
 dsimp only at hk hF hs⊢
 have hle:=hF.le
 have hol:=hs.len
 conv=>whnf
 refine ah ?_ ?_<;>(intro g1;conv=>whnf)
 ·have hkl:k<frst.length:=by omega
  have hc:=hf1 _ (aG aC hkl)
  have hw:∀d∈l,bc d=false:=fun d hd=>(S.rdy (hF.ini d hd)).wide
  have hnxt:=hF.next hc
  refine v9 [0,1,2,3,4] (by decide+kernel) ?_
  obtain⟨c,ec⟩:∃c,frst.getD k aC=c:=⟨_,rfl⟩
  rw[ec] at hnxt
  conv=>whnf
  refine And.intro ?_ True.intro
  conv=>whnf
  refine nI ?_
  rw[tN,ec]
  conv=>whnf
  refine And.intro ?_ True.intro
  conv=>whnf
  refine And.intro ?_ True.intro
  conv=>whnf
  refine an.call [(7001, .old 7001),(7002, .old 7002),(7003, .old 7003),(7008, .old 7008),(7009, .old 7009)] (GH p s l o [] []) 400 rfl (aa) (aa) (Ju p s l o [] [] c rfl hs (by omega) hw) ?_
  rintro u M' ⟨o',b,h1,h2,rfl,rfl⟩
  refine⟨[(7001, .old 7001),(7002, .old 7002),(7003, .old 7003),(7004, .old 7004),(7005, .old 7005),(7008, .old 7008),(7009, .old 7009)],LE p s (pP l c) o' [] [], .bool b,rfl,(aa),rfl,?_⟩
  conv=>whnf
  repeat' ((first|refine nI ?_|refine aI ?_|refine tI ?_|refine fI ?_|fail);conv=>whnf)
  refine⟨(k+1,pP l c,o'),?_,⟨by dsimp only;omega,hnxt,h1⟩,by dsimp only;omega⟩
  exact aM.by_ [(7001, .old 7001),(7002, .old 7004),(7003, .old 7005),(7008, .old 7008),(7009, .old 7009)] _ 400 rfl (aa) (aa)
 obtain rfl:k=frst.length:=by omega
 have hI:=hF.fin hf2
 have hlf:l.length<=30000000:=by omega
 clear hF hle hk g1
 refine aE.loopW (fun z:OU=>lS p q s z.1 z.2.2.1 z.2.2.2/\vU z.1 z.2.1/\z.1.length<=30000000/\yq z.2.2.1) (fun z=>[(6, .int .i64 (z.2.2.1.length:Int)),(8, .top),(10, .top)]) (fun z=>GH p s z.1 z.2.1 z.2.2.1 z.2.2.2) (fun z=>4001-z.2.2.1.length) (l,o,[],[]) ⟨hI,hs,hlf,fun x hx=>absurd hx List.not_mem_nil⟩ ?_
 conv=>whnf
 refine⟨aM.by_ [(7001, .old 7001),(7002, .old 7002),(7003, .old 7003),(7008, .old 7008),(7009, .old 7009)] _ 400 rfl (aa) (aa),?_⟩
 clear hI hs hol
 rintro⟨l,o,ss,tt⟩ ⟨hI,hs,hlb,hfs⟩
 dsimp only at hI hs hlb hfs⊢
 have hle:=hI.le
 have htl:=hI.tl
 have hol:=hs.len
 conv=>whnf
 refine aE.seqC ab ac ?_
 conv=>whnf
 refine ah ?_ ?_<;>(intro g1;conv=>whnf)
 case refine_2=>
  have hsl:ss.length=l.length:=by omega
  refine ah ?_ ?_<;>(intro g2;conv=>whnf)
  ·exact⟨l,o,ss,tt,hI,hs, .inl ⟨hsl,⟨by omega,hfs⟩,rfl⟩,aa⟩
  ·exact⟨l,o,ss,tt,hI,hs, .inr ⟨hI.many S (by omega),rfl⟩,aa⟩
 have hlt:ss.length<l.length:=by omega
 refine aE.seqW (aE.blockW ?_)
 refine aE.seqC ab ac ?_
 conv=>whnf
 refine ah ?_ ?_<;>(intro g2;conv=>whnf)
 ·exact⟨l,o,ss,tt,hI,hs, .inr ⟨hI.many S (by omega),rfl⟩,aa⟩
 have hmem:=aG aC hlt
 obtain⟨c,ec⟩:∃c,l.getD ss.length aC=c:=⟨_,rfl⟩
 rw[ec] at hmem
 have hr:c9 p s c:=by
  obtain⟨n,hw⟩:=hI.rp c hmem
  exact hw.rdy S
 refine aE.seqC ab ac ?_
 conv=>whnf
 refine dI ?_
 conv=>whnf
 refine nI ?_
 rw[tN]
 conv=>whnf
 rw[ec]
 (refine oC (KA p s c hr) ?_;conv=>whnf)
 have hop:=hI.opnT (xs:=d9 p s c p.rules.length) hlt ec
 have hfew:=Iw hr
 have hst:=fun m (hm:m<(d9 p s c p.rules.length).length)=>kI.1 (aG aR hm)
 have hfin:∀(l:List ap) (to:List Int),Jv p q s l ss tt c (d9 p s c p.rules.length) to (d9 p s c p.rules.length).length->lS p q s l (ss++[d9 p s c p.rules.length]) (tt++[to]):=fun l to h=>h.doneT
 have hl4:l.length<=4000:=by omega
 have hs4:ss.length<4000:=by omega
 generalize d9 p s c p.rules.length=xs at hop hfew hst hfin⊢
 refine aE.seqC ab ac ?_
 conv=>whnf
 refine aE.seqC ab ac ?_
 conv=>whnf
 refine aE.loopF ab ac (fun z:Nat×List ap×List Int×List Int=>z.1<=xs.length/\Jv p q s z.2.1 ss tt c xs z.2.2.2 z.1/\vU z.2.1 z.2.2.1/\z.2.1.length<=4000+z.1) (fun z=>[(8, .row 1000 z.2.2.2.length 1),(9, .int .i64 (z.1:Int)),(10, .top),(31, .top),(40, .top),(55, .top),(57, .top)]) (fun z=>(1000,bG z.2.2.2)::GH p s z.2.1 z.2.2.1 ss tt) (fun z=>xs.length-z.1) (0,l,o,[]) ⟨Nat.zero_le _,hop,hs,by omega⟩ ?_;conv=>whnf
 refine⟨aM.by_ [(1000, .nil 1),(7001, .old 7001),(7002, .old 7002),(7003, .old 7003),(7008, .old 7008),(7009, .old 7009)] _ 400 rfl (aa) (aa),?_⟩
 clear hI hs hlb hle hol g1 g2 hlt hmem ec hop hl4
 rintro⟨j,l,o,to⟩ ⟨hj,hU,hs,hlj⟩
 dsimp only at hj hU hs hlj⊢
 have hol:=hs.len
 have hlt:=hU.lt
 have hat:=hU.at_
 have hto:=hU.tl
 have hmem:c∈l:=by rw[<-hat];exact aG aC hlt
 conv=>whnf
 refine ah ?_ ?_<;>(intro g3;conv=>whnf)
 ·have hjl:j<xs.length:=by omega
  have he:=hst j hjl
  have hnx:=fun i ha hi hg=>hU.nextT (i:=i) he ha hi hg
  have hbad:=hU.k.bad S hmem he
  have hw:=hU.k.wideT S
  obtain⟨x,ex⟩:∃x,xs.getD j aR=x:=⟨_,rfl⟩
  rw[ex] at he hnx hbad
  refine dI ?_
  conv=>whnf
  refine nI ?_
  rw[tN]
  conv=>whnf
  refine nI ?_
  rw[tN]
  conv=>whnf
  rw[hat,ex]
  have hA:=zJ p s c x hr he
  have eR:p.rules.getD x.rule.toNat au=aH p x:=rfl
  rw[eR] at hA
  by_cases ha:bo c (aH p x) x
  case neg=>
   rw[decide_eq_false ha] at hA
   (refine oC (hA) ?_;conv=>whnf)
   conv=>whnf
   exact⟨l,o,ss,tt,hU.k,hs, .inr ⟨hbad ha,rfl⟩,aa⟩
  rw[decide_eq_true ha] at hA
  have hnx:=fun i=>hnx i ha
  obtain⟨d,ed⟩:∃d,cb c (aH p x) x=d:=⟨_,rfl⟩
  rw[ed] at hA hnx
  (refine oC (hA) ?_;conv=>whnf)
  refine v9 [0,1,2] (by decide+kernel) ?_
  conv=>whnf
  repeat' first
   |exact True.intro
   |(refine And.intro ?_ ?_<;>conv=>whnf)
   |fail
  refine an.call [(7001, .old 7001),(7002, .old 7002),(7003, .old 7003),(7008, .old 7008),(7009, .old 7009)] (GH p s l o ss tt) 400 rfl (aa) (aa) (Ju p s l o ss tt d hU.k.tl hs (by omega) hw) ?_
  rintro u M' ⟨o',b,h1,h2,rfl,rfl⟩
  have hlen:=oy l d
  have hw':∀e∈pP l d,bc e=false:=fun e he2=>by
   rcases z4 he2 with k|rfl
   ·exact hw e k
   ·rw[<-ed];exact(hr.next he ha).wide
  have hin:=Gm l d
  generalize pP l d=l2 at h1 hnx hlen hw' hin⊢
  refine⟨[(7001, .old 7001),(7002, .old 7002),(7003, .old 7003),(7004, .old 7004),(7005, .old 7005),(7008, .old 7008),(7009, .old 7009)],LE p s l2 o' ss tt, .bool b,rfl,(aa),rfl,?_⟩
  conv=>whnf
  repeat' first
   |exact True.intro
   |(refine And.intro ?_ ?_<;>conv=>whnf)
   |fail
  refine v9 [1,2,3] (by decide+kernel) ?_
  conv=>whnf
  repeat' first
   |exact True.intro
   |(refine And.intro ?_ ?_<;>conv=>whnf)
   |fail
  all_goals
   refine an.borD (R:=fun u=>(∃i:Nat,i<l2.length/\l2.getD i aC=d/\u= .int .i64 (i:Int))\/(d∉l2/\u= .int .i64 (-1))) [7001,7004,7005] 3 (MZ l2 o' d .top .top .nilsl .nilsl .nilsl h1 (by omega) hw') (by rintro _ (⟨i,_,_,rfl⟩|⟨_,rfl⟩)<;>rfl) ?_
   rintro _ (⟨i,hi,hg,rfl⟩|⟨hno,rfl⟩)
   case inr=>exact absurd hin hno
   have hU2:=hnx i hi hg
   conv=>whnf
   repeat' first
    |exact True.intro
    |(refine And.intro ?_ ?_<;>conv=>whnf)
    |(refine cB [(i:Int)] rfl (by dsimp only[List.length];omega) ?_;conv=>whnf)
    |fail
   all_goals
    repeat' ((first|refine nI ?_|refine aI ?_|refine tI ?_|refine fI ?_|fail);conv=>whnf)
    refine⟨(j+1,l2,o',to++[(i:Int)]),?_,⟨by dsimp only;omega,hU2,h1,by dsimp only;omega⟩,by dsimp only;omega⟩
    dsimp only
    exact aM.by_ [(1000, .old 100),(7001, .old 7001),(7002, .old 7004),(7003, .old 7005),(7008, .old 7008),(7009, .old 7009)] _ 400 rfl (aa) (aa)
 ·obtain rfl:j=xs.length:=by omega
  have hI:=hfin l to hU
  refine aE.lend [1000] 2 ?_
  conv=>whnf
  refine aE.seqC ab ac ?_
  conv=>whnf
  refine cA [] uE [xs] rfl ?_
  conv=>whnf
  refine cB [xs] rfl (by dsimp only[List.length];omega) ?_
  conv=>whnf
  refine aZ ab ac _ _ _ _ ?_
  conv=>whnf
  refine cA [] cU [to] rfl ?_
  conv=>whnf
  refine cB [to] rfl (by have:=hU.k.tl;dsimp only[List.length];omega) ?_
  conv=>whnf
  refine aZ ab ac _ _ _ _ ?_
  conv=>whnf
  repeat' ((first|refine nI ?_|refine aI ?_|refine tI ?_|refine fI ?_|fail);conv=>whnf)
  have e1:(ss++[xs]).length=ss.length+1:=by rw[List.length_append];rfl
  have e2:tt.length=ss.length:=hU.k.tl
  refine⟨(l,o,ss++[xs],tt++[to]),?_,⟨hI,hs,by dsimp only;omega,hfs.snoc hfew⟩,by dsimp only;omega⟩
  dsimp only
  unfold GH
  rw[e1]
  exact aM.by_ [(7001, .old 7001),(7002, .old 7002),(7003, .old 7003),(7008, .old 108),(7009, .old 118)] _ 400 rfl (aa) (aa)
def yr (b:Bool):List AV:=[.bool b]
def yu (l:List Bool):aX:=.row 4 false yr l
def i8 (n:Nat) (f:Nat->Bool):List Bool:=(List.range n).map f
theorem oz (n:Nat) (f:Nat->Bool):(i8 n f).length=n:=by simp[i8]
theorem wa {n i:Nat} (h:i<n) (f:Nat->Bool):(i8 n f).getD i false=f i:=by
 rw[i8,gD,List.getElem?_map,List.getElem?_range h];rfl
theorem yv (n i:Nat) (v:Bool) (f:Nat->Bool):(i8 n f).set i v=i8 n (cQ f i v):=by
 apply List.ext_getElem (by simp[i8])
 intro j h1 h2
 have hj:j<n:=by simpa[i8] using h2
 rw[List.getElem_set]
 simp only[i8,List.getElem_map,List.getElem_range]
 by_cases e:i=j
 ·subst e;rw[if_pos rfl,bJ]
 ·rw[if_neg e,bq _ _ fun h=>e h.symm]
def N3 (p:ao) (s:az) (l:List ap) (o:List Int) (ss:List (List aQ)) (tt:List (List Int)) (a n k m:Nat):aX:=.box 71 [.str p.name, .int .i64 p.topology, .sl t0 cR p.states, .sl t0 cR p.messages, .sl t0 cR p.values, .int .i64 p.fault, .sl i0 eE p.resilience, .sl 0 aD p.initial, .sl 0 aD p.leader, .sl au fD p.rules, .int .i64 s.n, .int .i64 s.t, .int .i64 s.f, .sl aC bg l, .sl 0 aD o, .sl [] uE ss, .sl [] cU tt, .row 7002 n 1, .row a k 1, .row 7006 m 1]
def N4 (p:ao) (s:az) (l:List ap) (o:List Int) (ss:List (List aQ)) (tt:List (List Int)) (n:Nat) (pl:List Int) (st:KS):List (Nat×aX):=[(7001,N3 p s l o ss tt 7003 n st.od.length pl.length),(7002,yu (i8 n st.se)),(7003,bG (bM st.od)),(7006,bG pl)]
def Ns (p:ao) (s:az) (l:List ap) (o:List Int) (ss:List (List aQ)) (tt:List (List Int)) (n:Nat) (pl:List Int) (st:KS):List (Nat×aX):=[(7001,N3 p s l o ss tt 7004 n st.od.length pl.length),(7002,yu (i8 n st.se)),(7003, .dead),(7004,bG (bM st.od)),(7006,bG pl)]
def OV:b8:=[(7001, .old 7001),(7002, .old 7002),(7003, .old 7003),(7004, .old 7004),(7006, .old 7006)]
def M6:b8:=[(7001, .old 7001),(7002, .old 7002),(7003, .old 7003),(7004, .old 59),(7006, .old 7006)]
structure z5 (tt:List (List Int)) (n:Nat):Prop where
 len_:tt.length=n
 le:n<=4000
 e:∀i,i<n->(tt.getD i []).length<=20000000/\∀m,m<(tt.getD i []).length->∃j:Nat,(tt.getD i []).getD m 0=(j:Int)/\j<n
theorem z5.lt {tt:List (List Int)} {n:Nat} (h:z5 tt n) (x:Nat):∀y∈jr tt x,y<n:=by
 intro y hy
 obtain⟨z,hz,rfl⟩:=List.mem_map.1 hy
 by_cases hx:x<n
 ·obtain⟨m,hm,rfl⟩:=bp (0:Int) hz
  obtain⟨j,e,hj⟩:=(h.e x hx).2 m hm
  rw[e];exact hj
 ·rw[gD,List.getElem?_eq_none (by rw[h.len_];omega)] at hz
  cases hz
theorem Kv.joinT {E:Nat->List Nat} {A B s t u} (h:Kv E A s t) (k:Kv E B t u):Kv E (A++B) s u:=by
 induction h with
 |nil=>exact k
 |white a b _ _ ih=>exact .white a b (ih k)
 |seen a _ ih=>exact .seen a (ih k)
theorem sN {l:List Nat} {k:Nat} (h:k<l.length):l.take (k+1)=l.take k++[l.getD k 0]:=by
 rw[List.take_add_one,gL h,gD,gL h];rfl
theorem Gn {tt:List (List Int)} {i k j:Nat} (h:(tt.getD i []).getD k 0=(j:Int)) (hk:k<(tt.getD i []).length):(jr tt i).getD k 0=j/\k<(jr tt i).length:=by
 have hl:(jr tt i).length=(tt.getD i []).length:=by simp[jr]
 refine⟨?_,by omega⟩
 unfold jr
 rw[gD,List.getElem?_map]
 rw[gD,gL hk] at h
 rw[gL hk]
 have h:(tt.getD i [])[k]=(j:Int):=h
 show Int.toNat ((tt.getD i [])[k])=j
 rw[h];rfl
theorem M7 {tt:List (List Int)} {i k:Nat}:(jr tt i).take k=((tt.getD i []).take k).map Int.toNat:=by unfold jr;rw[List.map_take]
theorem Ll (p:ao) (s:az) (l:List ap) (o:List Int) (ss:List (List aQ)) (tt:List (List Int)) (n:Nat) (pl:List Int) (ht:z5 tt n):∀(b:Nat) (st:KS) (i:Nat),(wh n st).length<=b->i<n->st.se i=false->st.od.length+(wh n st).length<=4000->
  an Tryz.prog 25 [.ptr 7001 0, .int .i64 (i:Int)] (ai.ofL (N4 p s l o ss tt n pl st)) (fun u M=>∃t,Kv (jr tt) (jr tt i) {st with se:=cQ st.se i true} t/\u= .tup []/\M=ai.ofL (Ns p s l o ss tt n pl {t with od:=t.od++[i]}))
 |0,st,i,hb,hi,hs,_=>absurd (Il.2 ⟨hi,hs⟩) (by rw[List.length_eq_zero_iff.1 (Nat.le_zero.1 hb)];exact List.not_mem_nil)
 |b+1,st,i,hb,hi,hs,hod=>by
  have hmark:=yk hi hs
  have hl2:=oz n st.se
  have hte:=ht.e i hi
  have htn:=ht.len_
  have htl:=ht.le
  refine an.renorm 400 (R:=fun u M=>∃t,Kv (jr tt) (jr tt i) {st with se:=cQ st.se i true} t/\u= .tup []/\dK M6 400 M (Ns p s l o ss tt n pl {t with od:=t.od++[i]})) ?_ ?_
  case refine_2=>
   rintro u M ⟨t,h1,rfl,h2⟩
   exact⟨M6,_, .tup [],rfl,h2,trivial,t,h1,rfl,rfl⟩
  refine an.intro ab ac (N4 p s l o ss tt n pl st) Tryz.func25 rfl (by decide) ?_
  conv=>whnf
  refine nI ?_
  rw[tN]
  conv=>whnf
  refine ak true rfl ?_
  rw[yv]
  conv=>whnf
  have hE:=ht.lt
  refine aE.loopF ab ac (fun z:Nat×KS=>z.1<=(tt.getD i []).length/\Kv (jr tt) ((jr tt i).take z.1) {st with se:=cQ st.se i true} z.2) (fun z=>[(4, .int .i64 (z.1:Int))]) (fun z=>Ns p s l o ss tt n pl z.2) (fun z=>(tt.getD i []).length-z.1) (0,{st with se:=cQ st.se i true}) ⟨Nat.zero_le _, .nil⟩ ?_;conv=>whnf
  refine⟨aM.by_ [(7001, .old 7001),(7002, .old 7002),(7003, .old 7003),(7004, .old 7003),(7006, .old 7006)] _ 400 rfl (aa) (aa),?_⟩
  rintro⟨k,t⟩ ⟨hk,hK⟩
  dsimp only at hk hK⊢
  have hnum:=hK.num (n:=n) hE (fun y hy=>hE i y (List.mem_of_mem_take hy))
  dsimp only at hnum
  have hl3:=oz n t.se
  conv=>whnf
  refine nI ?_
  rw[tN]
  conv=>whnf
  refine ah ?_ ?_<;>(intro g1;conv=>whnf)
  ·have hkl:k<(tt.getD i []).length:=by omega
   obtain⟨y,ey,hy⟩:=hte.2 k hkl
   obtain⟨ek1,ek2⟩:=Gn ey hkl
   have hup:=sN ek2
   rw[ek1] at hup
   refine dI ?_
   conv=>whnf
   refine nI ?_
   rw[tN]
   conv=>whnf
   refine nI ?_
   rw[tN,ey]
   conv=>whnf
   refine nI ?_
   rw[tN]
   conv=>whnf
   rw[wa hy]
   cases hb2:t.se y with
   |true=>
    conv=>whnf
    repeat' ((first|refine nI ?_|refine aI ?_|refine tI ?_|refine fI ?_|fail);conv=>whnf)
    refine⟨(k+1,t),aM.by_ [(7001, .old 7001),(7002, .old 7002),(7003, .old 7003),(7004, .old 7004),(7006, .old 7006)] _ 400 rfl (aa) (aa),⟨by dsimp only;omega,?_⟩,by dsimp only;omega⟩
    dsimp only
    rw[hup]
    exact hK.joinT (.seen hb2 .nil)
   |false=>
    conv=>whnf
    refine nI ?_
    rw[tN]
    conv=>whnf
    refine nI ?_
    rw[tN,ey]
    conv=>whnf
    refine an.call [(7001, .old 7001),(7002, .old 7002),(7003, .old 7004),(7006, .old 7006)] (N4 p s l o ss tt n pl t) 400 rfl (aa) (aa) (Ll p s l o ss tt n pl ht b t y (by omega) hy hb2 (by omega)) ?_
    rintro u M' ⟨t1,k1,rfl,rfl⟩
    refine⟨[(7001, .old 7001),(7002, .old 7002),(7004, .old 7003),(7005, .old 7004),(7006, .old 7006)],[(7001,N3 p s l o ss tt 7005 n (t1.od++[y]).length pl.length),(7002,yu (i8 n t1.se)),(7004, .dead),(7005,bG (bM (t1.od++[y]))),(7006,bG pl)], .tup [],rfl,(aa),trivial,?_⟩
    conv=>whnf
    repeat' ((first|refine nI ?_|refine aI ?_|refine tI ?_|refine fI ?_|fail);conv=>whnf)
    refine⟨(k+1,{t1 with od:=t1.od++[y]}),aM.by_ [(7001, .old 7001),(7002, .old 7002),(7003, .old 7003),(7004, .old 7005),(7006, .old 7006)] _ 400 rfl (aa) (aa),⟨by dsimp only;omega,?_⟩,by dsimp only;omega⟩
    dsimp only
    rw[hup]
    exact hK.joinT (.white hb2 k1 .nil)
  ·obtain rfl:k=(tt.getD i []).length:=by omega
   have hfull:(jr tt i).take (tt.getD i []).length=jr tt i:=List.take_of_length_le (by simp[jr])
   rw[hfull] at hK
   have hll:=eL t.od
   refine cB [(i:Int)] rfl (by dsimp only[List.length];omega) ?_
   conv=>whnf
   refine⟨t,hK,rfl,?_⟩
   unfold Ns
   dsimp only
   rw[iz,show(t.od++[i]).length=t.od.length+1 by rw[List.length_append];rfl]
   exact(aa)
def OC (p:ao) (s:az) (l:List ap) (o:List Int) (ss:List (List aQ)) (tt:List (List Int)) (x1 x2:AV) (pl:List Int):List AV:=[.str p.name, .int .i64 p.topology, .sl t0 cR p.states, .sl t0 cR p.messages, .sl t0 cR p.values, .int .i64 p.fault, .sl i0 eE p.resilience, .sl 0 aD p.initial, .sl 0 aD p.leader, .sl au fD p.rules, .int .i64 s.n, .int .i64 s.t, .int .i64 s.f, .sl aC bg l, .sl 0 aD o, .sl [] uE ss, .sl [] cU tt,x1,x2, .sl 0 aD pl]
structure Lm (p:ao) (s:az) (l:List ap) (ss:List (List aQ)) (tt:List (List Int)) (pl:List Int):Prop where
 t:z5 tt l.length
 rd:∀i,i<l.length->c9 p s (l.getD i aC)
 sl:ss.length=l.length
 st:∀i,i<l.length->(tt.getD i []).length=(ss.getD i []).length
 pl:pl.length=l.length
def Ln (ss:List (List aQ)) (tt:List (List Int)) (pl:List Int) (part r i:Int) (a m:Nat):Prop:=((ss.getD a []).getD m aR).rule=r/\((ss.getD a []).getD m aR).process=i/\pl.getD ((tt.getD a []).getD m 0).toNat 0=part
def Lo (p:ao) (s:az) (l:List ap) (ss:List (List aQ)) (tt:List (List Int)) (pl:List Int) (ms:List Nat) (part r i:Int):Prop:=
 (∃a∈ms,¬xJ p s (l.getD a aC) r i)\/∃a∈ms,∃m,m<(ss.getD a []).length/\Ln ss tt pl part r i a m
theorem M8 (p:ao) (s:az) (l:List ap) (o:List Int) (ss:List (List aQ)) (tt:List (List Int)) (x1 x2:AV) (pl:List Int) (h:Lm p s l ss tt pl) (ms:List Nat) (hm:∀a∈ms,a<l.length) (hml:ms.length<=4000) (part r i:Int):
  ae Tryz.prog 57 [.pd (OC p s l o ss tt x1 x2 pl), .sl 0 aD (bM ms), .int .i64 part, .int .i64 r, .int .i64 i] (fun u=>(Lo p s l ss tt pl ms part r i/\u= .bool true)\/(¬Lo p s l ss tt pl ms part r i/\u= .bool false)):=by
 have hll:=eL ms
 have hsl:=h.sl
 have htl:=h.t.len_
 have hpl:=h.pl
 refine ae.intro ab ac Tryz.func57 rfl (by decide) ?_;(conv=>whnf)
 refine aE.loopF ab ac (fun j:Nat=>j<=ms.length/\∀k,k<j->xJ p s (l.getD (ms.getD k 0) aC) r i) (fun j=>[(11, .int .i64 (j:Int))]) (fun _=>[]) (fun j=>ms.length-j) 0 ⟨Nat.zero_le _,fun k hk=>absurd hk (Nat.not_lt_zero _)⟩ ?_;conv=>whnf
 refine⟨sI,?_⟩
 rintro j ⟨hj,hf⟩
 conv=>whnf
 refine ah ?_ ?_<;>(intro g1;conv=>whnf)
 ·have hjl:j<ms.length:=by omega
  obtain⟨a,ea⟩:∃a,ms.getD j 0=a:=⟨_,rfl⟩
  have ham:a∈ms:=by rw[<-ea];exact dX hjl
  have hal:=hm a ham
  have hat:(bM ms).getD j 0=(a:Int):=by rw[js,ea]
  refine dI ?_
  conv=>whnf
  refine nI ?_
  rw[tN]
  conv=>whnf
  rw[hat]
  refine nI ?_
  rw[tN]
  conv=>whnf
  have hF:=uc p s (l.getD a aC) r i (h.rd a hal)
  by_cases hfc:xJ p s (l.getD a aC) r i
  ·rw[decide_eq_true hfc] at hF
   (refine oC (hF) ?_;conv=>whnf)
   repeat' ((first|refine nI ?_|refine aI ?_|refine tI ?_|refine fI ?_|fail);conv=>whnf)
   refine⟨j+1,sI,⟨by omega,fun k hk=>?_⟩,by dsimp only;omega⟩
   by_cases e:k=j
   ·subst e;rw[ea];exact hfc
   ·exact hf k (by omega)
  ·rw[decide_eq_false hfc] at hF
   (refine oC (hF) ?_;conv=>whnf)
   exact⟨.inl ⟨.inl ⟨a,ham,hfc⟩,rfl⟩,rfl⟩
 obtain rfl:j=ms.length:=by omega
 refine aE.loopF ab ac (fun j:Nat=>j<=ms.length/\∀k,k<j->∀m,m<(ss.getD (ms.getD k 0) []).length->¬Ln ss tt pl part r i (ms.getD k 0) m) (fun j=>[(12, .int .i64 (j:Int))]) (fun _=>[]) (fun j=>ms.length-j) 0 ⟨Nat.zero_le _,fun k hk=>absurd hk (Nat.not_lt_zero _)⟩ ?_;conv=>whnf
 refine⟨sI,?_⟩
 rintro j ⟨hj2,hf2⟩
 conv=>whnf
 refine ah ?_ ?_<;>(intro g2;conv=>whnf)
 case refine_2=>
  obtain rfl:j=ms.length:=by omega
  refine⟨.inr ⟨?_,rfl⟩,rfl⟩
  rintro(⟨a,ha,hn⟩|⟨a,ha,m,h1,h2⟩)
  ·obtain⟨k,hk,rfl⟩:=j8 ha
   exact hn (hf k hk)
  ·obtain⟨k,hk,rfl⟩:=j8 ha
   exact hf2 k hk m h1 h2
 have hjl:j<ms.length:=by omega
 obtain⟨a,ea⟩:∃a,ms.getD j 0=a:=⟨_,rfl⟩
 have ham:a∈ms:=by rw[<-ea];exact dX hjl
 have hal:=hm a ham
 have hat:(bM ms).getD j 0=(a:Int):=by rw[js,ea]
 have hst:=h.st a hal
 have hte:=h.t.e a hal
 refine aE.loopF ab ac (fun m:Nat=>m<=(ss.getD a []).length/\∀k,k<m->¬Ln ss tt pl part r i a k) (fun m=>[(13, .int .i64 (m:Int)),(14, .top)]) (fun _=>[]) (fun m=>(ss.getD a []).length-m) 0 ⟨Nat.zero_le _,fun k hk=>absurd hk (Nat.not_lt_zero _)⟩ ?_;conv=>whnf
 refine⟨sI,?_⟩
 rintro m ⟨hm1,hf3⟩
 conv=>whnf
 refine dI ?_
 conv=>whnf
 refine nI ?_
 rw[tN]
 conv=>whnf
 rw[hat]
 refine nI ?_
 rw[tN]
 conv=>whnf
 refine ah ?_ ?_<;>(intro g3;conv=>whnf)
 case refine_2=>
  obtain rfl:m=(ss.getD a []).length:=by omega
  repeat' ((first|refine nI ?_|refine aI ?_|refine tI ?_|refine fI ?_|fail);conv=>whnf)
  refine⟨j+1,sI,⟨by omega,fun k hk m' h1=>?_⟩,by dsimp only;omega⟩
  by_cases e:k=j
  ·subst e;rw[ea] at h1⊢;exact hf3 m' h1
  ·exact hf2 k (by omega) m' h1
 have hml2:m<(ss.getD a []).length:=by omega
 obtain⟨y,ey,hy⟩:=hte.2 m (by omega)
 obtain⟨x,ex⟩:∃x,(ss.getD a []).getD m aR=x:=⟨_,rfl⟩
 have next:¬Ln ss tt pl part r i a m->∀k,k<m+1->¬Ln ss tt pl part r i a k:=by
  intro hno k hk
  by_cases e:k=m
  ·subst e;exact hno
  ·exact hf3 k (by omega)
 have hfe:Ln ss tt pl part r i a m↔x.rule=r/\x.process=i/\pl.getD y 0=part:=by
  unfold Ln
  rw[ex,ey,tN]
 refine dI ?_
 conv=>whnf
 refine nI ?_
 rw[tN]
 conv=>whnf
 rw[hat]
 refine nI ?_
 rw[tN]
 conv=>whnf
 refine nI ?_
 rw[tN]
 conv=>whnf
 rw[ex]
 conv=>whnf
 refine dI ?_
 conv=>whnf
 refine ah ?_ ?_<;>(intro g4;conv=>whnf)
 ·refine ah ?_ ?_<;>(intro g5;conv=>whnf)
  ·refine nI ?_
   rw[tN]
   conv=>whnf
   rw[hat]
   refine nI ?_
   rw[tN]
   conv=>whnf
   refine nI ?_
   rw[tN,ey]
   conv=>whnf
   refine nI ?_
   rw[tN]
   conv=>whnf
   refine ah ?_ ?_<;>(intro g6;conv=>whnf)
   ·exact⟨.inl ⟨.inr ⟨a,ham,m,hml2,hfe.2 ⟨g4,g5,g6⟩⟩,rfl⟩,rfl⟩
   ·repeat' ((first|refine nI ?_|refine aI ?_|refine tI ?_|refine fI ?_|fail);conv=>whnf)
    exact⟨m+1,sI,⟨by omega,next fun k=>g6 (hfe.1 k).2.2⟩,by dsimp only;omega⟩
  ·repeat' ((first|refine nI ?_|refine aI ?_|refine tI ?_|refine fI ?_|fail);conv=>whnf)
   exact⟨m+1,sI,⟨by omega,next fun k=>g5 (hfe.1 k).2.1⟩,by dsimp only;omega⟩
 ·repeat' ((first|refine nI ?_|refine aI ?_|refine tI ?_|refine fI ?_|fail);conv=>whnf)
  exact⟨m+1,sI,⟨by omega,next fun k=>g4 (hfe.1 k).1⟩,by dsimp only;omega⟩
def yw (pl:List Int) (part:Int) (n:Nat):List Nat:=(List.range n).filter fun a=>decide (pl.getD a 0=part)
theorem Bx {pl:List Int} {part:Int} {n a:Nat}:a∈yw pl part n↔a<n/\pl.getD a 0=part:=by simp[yw]
theorem Ix (pl:List Int) (part:Int) (n:Nat):(yw pl part n).length<=n:=by
 have:=List.length_filter_le (fun a=>decide (pl.getD a 0=part)) (List.range n)
 rw[List.length_range] at this
 exact this
theorem Iy {pl:List Int} {part:Int} {n:Nat} (h:pl.getD n 0=part):yw pl part (n+1)=yw pl part n++[n]:=by
 unfold yw
 rw[List.range_succ,List.filter_append]
 simp only[List.filter_cons,List.filter_nil,decide_eq_true h,if_true]
theorem Lp {pl:List Int} {part:Int} {n:Nat} (h:pl.getD n 0≠part):yw pl part (n+1)=yw pl part n:=by
 unfold yw
 rw[List.range_succ,List.filter_append]
 simp only[List.filter_cons,List.filter_nil,decide_eq_false h,Bool.false_eq_true,if_false,List.append_nil]
def Db (p:ao) (s:az) (l:List ap) (ss:List (List aQ)) (tt:List (List Int)) (pl:List Int) (part:Int) (N:Nat):Prop:=
 (∃a,a<l.length/\pl.getD a 0=part)/\∀r k:Nat,r<p.rules.length->k<N->Lo p s l ss tt pl (yw pl part l.length) part r k
theorem OD (p:ao) (s:az) (l:List ap) (o:List Int) (ss:List (List aQ)) (tt:List (List Int)) (sb:List Bool) (ol:List Int) (pl:List Int) (h:Lm p s l ss tt pl) (N:Nat) (hN:∀i,i<l.length->(l.getD i aC).states.length=N) (hr:p.rules.length<=1000) (hNb:N<=1000) (part:Int):
  ae Tryz.prog 27 [.pd (OC p s l o ss tt (.sl false yr sb) (.sl 0 aD ol) pl), .int .i64 part] (fun u=>(Db p s l ss tt pl part N/\u= .bool true)\/(¬Db p s l ss tt pl part N/\u= .bool false)):=by
 have hpl:=h.pl
 have hn4:=h.t.le
 refine ae.intro ab ac Tryz.func27 rfl (by decide) ?_;(conv=>whnf)
 refine aE.loopF ab ac (fun j:Nat=>j<=l.length) (fun j=>[(5, .row 1000 (yw pl part j).length 1),(6, .int .i64 (j:Int))]) (fun j=>[(1000,bG (bM (yw pl part j)))]) (fun j=>l.length-j) 0 (Nat.zero_le _) ?_;conv=>whnf
 refine⟨aM.by_ [(1000, .nil 1)] _ 400 rfl (aa) (aa),?_⟩
 rintro j hj
 have hml:=Ix pl part j
 have hll:=eL (yw pl part j)
 conv=>whnf
 refine ah ?_ ?_<;>(intro g1;conv=>whnf)
 ·have hjl:j<l.length:=by omega
  refine nI ?_
  rw[tN]
  conv=>whnf
  refine ah ?_ ?_<;>(intro g2;conv=>whnf)
  ·refine cB [(j:Int)] rfl (by dsimp only[List.length];omega) ?_
   conv=>whnf
   repeat' ((first|refine nI ?_|refine aI ?_|refine tI ?_|refine fI ?_|fail);conv=>whnf)
   refine⟨j+1,?_,by omega,by dsimp only;omega⟩
   dsimp only
   rw[Iy g2,iz,show(yw pl part j++[j]).length=(yw pl part j).length+1 by rw[List.length_append];rfl]
   exact aM.by_ [(1000, .old 30)] _ 400 rfl (aa) (aa)
  ·repeat' ((first|refine nI ?_|refine aI ?_|refine tI ?_|refine fI ?_|fail);conv=>whnf)
   refine⟨j+1,?_,by omega,by dsimp only;omega⟩
   dsimp only
   rw[Lp g2]
   exact aM.by_ [(1000, .old 1000)] _ 400 rfl (aa) (aa)
 obtain rfl:j=l.length:=by omega
 have hmm:=fun a=>Bx (pl:=pl) (part:=part) (n:=l.length) (a:=a)
 obtain⟨ms,ems⟩:∃ms,yw pl part l.length=ms:=⟨_,rfl⟩
 have hfa:Db p s l ss tt pl part N↔(∃a,a<l.length/\pl.getD a 0=part)/\∀r k:Nat,r<p.rules.length->k<N->Lo p s l ss tt pl ms part r k:=by rw[<-ems];exact Iff.rfl
 rw[ems] at hml hll hmm⊢
 refine ah ?_ ?_<;>(intro g2;conv=>whnf)
 ·refine⟨.inr ⟨fun k=>?_,rfl⟩,rfl⟩
  obtain⟨a,ha⟩:=(hfa.1 k).1
  have:=List.length_pos_of_mem ((hmm a).2 ha)
  omega
 have hpos:0<ms.length:=by omega
 have hms:∀a∈ms,a<l.length:=fun a ha=>((hmm a).1 ha).1
 have hfree:=fun(r i:Int)=>M8 p s l o ss tt (.sl false yr sb) (.sl 0 aD ol) pl h ms hms (by omega) part r i
 have h0:ms.getD 0 0∈ms:=dX hpos
 have hat:(bM ms).getD 0 0=((ms.getD 0 0:Nat):Int):=js
 have hfa':Db p s l ss tt pl part N↔∀r k:Nat,r<p.rules.length->k<N->Lo p s l ss tt pl ms part r k:=by
  rw[hfa]
  exact⟨fun k=>k.2,fun k=>⟨⟨_,(hmm _).1 h0⟩,k⟩⟩
 have h0l:=hms _ h0
 have hN0:=hN _ h0l
 refine aE.lend [1000] 2 ?_
 conv=>whnf
 refine aE.loopF ab ac (fun j:Nat=>j<=p.rules.length/\∀r k:Nat,r<j->k<N->Lo p s l ss tt pl ms part r k) (fun j=>[(7, .int .i64 (j:Int))]) (fun _=>[]) (fun j=>p.rules.length-j) 0 ⟨Nat.zero_le _,fun r k hr=>absurd hr (Nat.not_lt_zero _)⟩ ?_;conv=>whnf
 refine⟨aM.by_ [] _ 400 rfl (aa) (aa),?_⟩
 rintro j ⟨hj2,hf⟩
 conv=>whnf
 refine ah ?_ ?_<;>(intro g3;conv=>whnf)
 case refine_2=>
  obtain rfl:j=p.rules.length:=by omega
  exact⟨.inl ⟨hfa'.2 hf,rfl⟩,rfl⟩
 have hjl:j<p.rules.length:=by omega
 refine aE.loopF ab ac (fun m:Nat=>m<=N/\∀k:Nat,k<m->Lo p s l ss tt pl ms part j k) (fun m=>[(8, .int .i64 (m:Int))]) (fun _=>[]) (fun m=>N-m) 0 ⟨Nat.zero_le _,fun k hk=>absurd hk (Nat.not_lt_zero _)⟩ ?_;conv=>whnf
 refine⟨aM.by_ [] _ 400 rfl (aa) (aa),?_⟩
 rintro m ⟨hm2,hf2⟩
 conv=>whnf
 refine dI ?_
 conv=>whnf
 refine nI ?_
 rw[show(0:Int).toNat=0 from rfl]
 conv=>whnf
 rw[hat]
 refine nI ?_
 rw[tN]
 conv=>whnf
 refine ah ?_ ?_<;>(intro g4;conv=>whnf)
 case refine_2=>
  obtain rfl:m=N:=by omega
  repeat' ((first|refine nI ?_|refine aI ?_|refine tI ?_|refine fI ?_|fail);conv=>whnf)
  refine⟨j+1,aM.by_ [] _ 400 rfl (aa) (aa),⟨by omega,fun r k hr hk=>?_⟩,by dsimp only;omega⟩
  by_cases e:r=j
  ·subst e;exact hf2 k hk
  ·exact hf r k (by omega) hk
 refine an.of_pure (n:=5) (hfree j m) rfl ?_
 rintro _ (⟨hy,rfl⟩|⟨hn,rfl⟩)
 ·conv=>whnf
  repeat' ((first|refine nI ?_|refine aI ?_|refine tI ?_|refine fI ?_|fail);conv=>whnf)
  refine⟨m+1,aM.by_ [] _ 400 rfl (aa) (aa),⟨by omega,fun k hk=>?_⟩,by dsimp only;omega⟩
  by_cases e:k=m
  ·subst e;exact hy
  ·exact hf2 k (by omega)
 ·conv=>whnf
  exact⟨.inr ⟨fun k=>hn (hfa'.1 k j m hjl (by omega)),rfl⟩,rfl⟩
def yx (E:Nat->List Nat) (i k:Nat):List (Nat×Nat):=((List.range i).flatMap fun a=>(E a).map fun b=>(a,b))++((E i).take k).map fun b=>(i,b)
theorem M9 (E:Nat->List Nat):yx E 0 0=[]:=rfl
theorem yy {E:Nat->List Nat} {i k:Nat} (h:k<(E i).length):yx E i (k+1)=yx E i k++[(i,(E i).getD k 0)]:=by
 unfold yx
 rw[sN h,List.map_append,<-List.append_assoc]
 rfl
theorem yA {E:Nat->List Nat} {i:Nat}:yx E i (E i).length=yx E (i+1) 0:=by
 unfold yx
 rw[List.take_length,List.range_succ,List.flatMap_append,List.take_zero]
 simp
theorem Nt {E:Nat->List Nat} {n a b:Nat}:(a,b)∈yx E n 0↔a<n/\b∈E a:=by
 unfold yx
 simp only[List.take_zero,List.map_nil,List.append_nil,List.mem_flatMap,List.mem_range,List.mem_map,Prod.mk.injEq]
 constructor
 ·rintro⟨x,hx,y,hy,rfl,rfl⟩;exact⟨hx,hy⟩
 ·rintro⟨h1,h2⟩;exact⟨a,h1,b,h2,rfl,rfl⟩
def z6 (es:List (Nat×Nat)) (V:Nat->Bool) (j:Nat):List Nat:=(es.filter fun e=>V e.1&&V e.2&&decide (e.2=j)).map fun e=>e.1
theorem Nu (V:Nat->Bool) (j:Nat):z6 [] V j=[]:=rfl
theorem Iz {es:List (Nat×Nat)} {V:Nat->Bool} {i y:Nat} (h1:V i=true) (h2:V y=true) (j:Nat):z6 (es++[(i,y)]) V j=cQ (z6 es V) y (z6 es V y++[i]) j:=by
 unfold z6
 rw[List.filter_append,List.map_append]
 by_cases e:j=y
 ·subst e
  rw[bJ]
  simp[h1,h2]
 ·rw[bq _ _ e]
  have:¬y=j:=fun h=>e h.symm
  simp[this]
theorem Lq {es:List (Nat×Nat)} {V:Nat->Bool} {i y:Nat} (h:¬(V i=true/\V y=true)) (j:Nat):z6 (es++[(i,y)]) V j=z6 es V j:=by
 unfold z6
 rw[List.filter_append,List.map_append]
 have:(V i&&V y&&decide (y=j))=false:=by
  cases h1:V i with
  |false=>rfl
  |true=>
   cases h2:V y with
   |false=>rfl
   |true=>exact absurd ⟨h1,h2⟩ h
 simp[this]
theorem IA {es:List (Nat×Nat)} {V:Nat->Bool} {i j:Nat}:i∈z6 es V j↔(i,j)∈es/\V i=true/\V j=true:=by
 unfold z6
 simp only[List.mem_map,List.mem_filter,Bool.and_eq_true,decide_eq_true_eq]
 constructor
 ·rintro⟨⟨a,b⟩,⟨h1,⟨h2,h3⟩,h4⟩,h5⟩
  have h4:b=j:=h4
  have h5:a=i:=h5
  subst h4;subst h5
  exact⟨h1,h2,h3⟩
 ·rintro⟨h1,h2,h3⟩
  exact⟨(i,j),⟨h1,⟨h2,h3⟩,rfl⟩,rfl⟩
theorem IB {es:List (Nat×Nat)} {V:Nat->Bool} {j:Nat}:(z6 es V j).length<=es.length:=by
 unfold z6
 rw[List.length_map]
 exact List.length_filter_le _ _
end
end Go.Proofs.YtokjgegkhlkopaaGreatDoor
