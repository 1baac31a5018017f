import Derived.Test.YtekmminpfhacpaaGreatDoorS2
import Derived.Test.YtekmminpfhacpaaGreatDoorSoD
import Derived.Test.YtekmminpfhacpaaGreatDoorPjF
set_option linter.unusedVariables false
set_option linter.unusedSimpArgs false
namespace Go.Proofs.YtekmminpfhacpaaGreatDoor
set_option maxRecDepth 100000
set_option maxHeartbeats 16000000
noncomputable abbrev lZ (xs:List cj):List (Nat×bP):=[(300, .row 77 cH ef xs)]
theorem DU (p:an) (s:aC) (c:ay) (l:List cj) (h:dk p s c) (ht:c9 p) (hr:bN p s c l) (hl:l.length<=9000):
  am Tryz.prog 75 [.agg (aB p), .agg (bv s), .agg (bd c), .row 300 l.length 3] (aj.ofL (lZ l)) (fun u M=>u=pC (cE p c l) 0/\M=aj.ofL (lZ l)):=by
 refine am.idn rfl (aa) ?_
 refine am.introL ac ae (lZ l) Tryz.func75 rfl (by decide) ?_
 conv=>whnf
 refine ak rfl ?_
 conv=>whnf
 refine ak rfl ?_
 conv=>whnf
 refine ak rfl ?_
 conv=>whnf
 refine am.news 400 (vE 5 9 13 17) (o9 c) (mX c) (rQ c h.wide) (aa) rfl yh ?_
 conv=>whnf
 refine bD aX bd [c] rfl ?_
 conv=>whnf
 refine aF.loopF ac ae (fun z:Nat×List ay×ay=>z.1<=l.length/\z.2.1.length=z.1+1/\z.2.1.getD z.1 aX=z.2.2/\dk p s z.2.2/\bN p s z.2.2 (l.drop z.1)/\z.2.1++tr p z.2.2 (l.drop z.1)=cE p c l) (fun z=>[(21, .int .i64 (z.1:Int)),(17, .top),(18, .top),(10, .row 1000 z.2.1.length 6)]) (fun z=>[(1000,FT z.2.1),(300, .row 77 cH ef l)]) (fun z=>l.length-z.1) (0,[c],c) ⟨Nat.zero_le _,rfl,rfl,h,hr,rfl⟩ ?_;conv=>whnf
 refine⟨aR.by_ [(1000, .old 18),(300, .old 300)] _ 400 rfl (aa) (aa),?_⟩
 rintro⟨k,acc,cur⟩ ⟨h1,h2,h3,h4,h5,h6⟩
 dsimp only at h1 h2 h3 h4 h5 h6⊢
 conv=>whnf
 refine ag ?_ ?_<;>(intro g1;conv=>whnf)
 ·rw[Bp (by omega)] at h5 h6
  obtain⟨he,ha,h5⟩:=h5
  rw[tr] at h6
  refine nI ?_
  rw[tN]
  conv=>whnf
  generalize l.getD k cH=x at*
  refine dI ?_
  conv=>whnf
  refine aI ?_
  conv=>whnf
  refine nI ?_
  rw[show((acc.length:Int)-1).toNat=k by omega]
  conv=>whnf
  rw[h3]
  (refine oC (CO p s cur h4.wide) ?_;conv=>whnf)
  refine dC (o8 p s cur x false h4) (fun _=>?_) (fun _=>?_)<;>(conv=>whnf)
  case refine_2=>
   rename_i hn
   exact absurd he hn
  have hA:=Bj p s cur x h4 he (wW ht h4.val he)
  have hN:=h4.next he ha
  unfold cN at ha h5 h6
  generalize p.rules.getD x.rule.toNat aq=r at hA ha h5 h6 hN
  refine am.news 400 (vE 1001 1002 1003 1004) (o9 (d9 cur r x)) (.tup [mX (d9 cur r x), .int .i64 0]) hA (aa) rfl (fun u M' hR=>?_) ?_
  ·rcases hR with ⟨_,hT⟩|⟨hn,_⟩
   ·exact Ht u M' hT
   ·exact absurd ha hn
  conv=>whnf
  repeat' ((first|refine nI ?_|refine aI ?_|refine tI ?_|refine fI ?_|fail);conv=>whnf)
  refine bD aX bd [d9 cur r x] rfl ?_
  conv=>whnf
  refine bQ [d9 cur r x] rfl lI ?_
  conv=>whnf
  repeat' ((first|refine nI ?_|refine aI ?_|refine tI ?_|refine fI ?_|fail);conv=>whnf)
  refine⟨(k+1,acc++[d9 cur r x],d9 cur r x),aR.by_ [(1000, .old 50),(300, .old 300)] _ 400 rfl (aa) (aa),⟨by dsimp only;omega,by simp;omega,by dsimp only;rw[<-h2];exact mB _ _,hN,h5,by dsimp only;rw[<-h6,List.append_assoc];rfl⟩,by dsimp only;omega⟩
 ·rw[List.drop_of_length_le (by omega),tr,List.append_nil] at h6
  exact⟨by rw[<-h6];rfl,aa⟩
theorem DV (p:an) (s:aC) (r:Rn) (h:dk p s r.start) (ht:c9 p) (hr:bN p s r.start r.steps) (hl:r.steps.length<=9000):
  am Tryz.prog 32 [.agg (aB p), .agg (bv s), .agg (bd r.start++[.row 300 r.steps.length 3])] (aj.ofL (lZ r.steps)) (fun u M=>u=pC (cE p r.start r.steps) 0/\M=aj.ofL (lZ r.steps)):=by
 have hz:aJ p s=0:=by
  have:=h.sz
  unfold aJ
  rw[if_neg (fun y=>y h.val),if_neg (fun y=>y h.adm),if_neg (by omega)]
 have hv:km p s r.start=0:=by unfold km;rw[if_pos h.vc]
 have h1:=kC p s h.big
 rw[hz] at h1
 have h2:=c8 (p:=p) (s:=s) hz
 have h3:=iW p s r.start h.big h.wide (by omega)
 rw[hv] at h3
 have h4:=DU p s r.start r.steps h ht hr hl
 refine am.idn rfl (aa) ?_
 refine am.introL ac ae (lZ r.steps) Tryz.func32 rfl (by decide) ?_
 conv=>whnf
 refine ak rfl ?_
 conv=>whnf
 refine ak rfl ?_
 conv=>whnf
 refine xd ?_
 conv=>whnf
 (refine oP (h1) ?_;conv=>whnf)
 refine iA (by decide) ?_
 conv=>whnf
 (refine oP (h3) ?_;conv=>whnf)
 refine iA (by decide) ?_
 conv=>whnf
 refine am.call [(300, .old 300)] (lZ r.steps) 400 rfl (aa) (aa) h4 ?_
 rintro u M' ⟨rfl,rfl⟩
 refine⟨[(300, .old 300)],lZ r.steps,pC (cE p r.start r.steps) 0,rfl,(aa),(aa),?_⟩
 conv=>whnf
 exact⟨rfl,aa⟩
theorem Hz (p:an) (s:aC) (r:Rn) (h:dk p s r.start) (ht:c9 p) (hr:bN p s r.start r.steps) (hl:r.steps.length<=9000):
  am Tryz.prog 20 [.agg (aB p), .agg (bv s), .agg (bd r.start++[.row 300 r.steps.length 3])] (aj.ofL (lZ r.steps)) (fun u M=>u= .tup [.agg (bd ((cE p r.start r.steps).getD r.steps.length aX)), .bool true]/\M=aj.ofL (lZ r.steps)):=by
 have h4:=DV p s r h ht hr hl
 have hlen:=fm p r.start r.steps
 generalize cE p r.start r.steps=A at*
 refine am.idn rfl (aa) ?_
 refine am.introL ac ae (lZ r.steps) Tryz.func20 rfl (by decide) ?_
 conv=>whnf
 refine ak rfl ?_
 conv=>whnf
 refine ak rfl ?_
 conv=>whnf
 refine xd ?_
 conv=>whnf
 refine am.call [(300, .old 300)] (lZ r.steps) 400 rfl (aa) (aa) h4 ?_
 rintro u M' ⟨rfl,rfl⟩
 refine⟨[(300, .old 300)],lZ r.steps,pC A 0,rfl,(aa),(aa),?_⟩
 conv=>whnf
 refine iA (by decide) ?_
 conv=>whnf
 refine fI ?_
 conv=>whnf
 refine aI ?_
 conv=>whnf
 refine nI ?_
 rw[show((A.length:Int)-1).toNat=r.steps.length by omega]
 conv=>whnf
 exact⟨rfl,aa⟩
theorem DW (p:an) (s:aC) (c:ay) (h:dk p s c):
  ab Tryz.prog 24 [.agg (aB p), .agg (bv s), .agg (bd c)] (fun u=>(∃i j:Nat,i<p.rules.length/\j<c.states.length/\nk p s c (i:Int) (j:Int)/\u= .tup [.agg (ef ⟨(i:Int),(j:Int),-1⟩), .bool true])\/(ym p s c/\u= .tup [.agg (ef cH), .bool false])):=by
 have hle:=aO h.big
 have hcl:=br h.wide
 have h5:=vH h
 refine ab.intro ac ae Tryz.func24 rfl (by decide) ?_;(conv=>whnf)
 refine ak rfl ?_
 conv=>whnf
 refine ak rfl ?_
 conv=>whnf
 refine ak rfl ?_
 conv=>whnf
 refine aF.loopF ac ae (fun r:Nat=>r<=p.rules.length/\∀a:Nat,a<r->∀i:Nat,i<c.states.length->¬nk p s c (a:Int) (i:Int)) (fun r=>[(8, .int .i64 (r:Int))]) (fun _=>[(6, .box 77 [.int .i64 0, .int .i64 0, .int .i64 0])]) (fun r=>p.rules.length-r) 0 ⟨Nat.zero_le _,fun a ha=>absurd ha (Nat.not_lt_zero _)⟩ ?_;conv=>whnf
 refine⟨sI,?_⟩
 rintro r ⟨hr,ha⟩
 conv=>whnf
 refine ag ?_ ?_<;>(intro k1;conv=>whnf)
 ·have hrl:r<p.rules.length:=by omega
  refine aF.loopF ac ae (fun i:Nat=>i<=c.states.length/\∀j:Nat,j<i->¬nk p s c (r:Int) (j:Int)) (fun i=>[(9, .int .i64 (i:Int))]) (fun _=>[(6, .box 77 [.int .i64 0, .int .i64 0, .int .i64 0])]) (fun i=>c.states.length-i) 0 ⟨Nat.zero_le _,fun a ha=>absurd ha (Nat.not_lt_zero _)⟩ ?_;conv=>whnf
  refine⟨sI,?_⟩
  rintro i ⟨hi,hb⟩
  conv=>whnf
  refine ag ?_ ?_<;>(intro k2;conv=>whnf)
  ·have hil:i<c.states.length:=by omega
   obtain⟨hA,hN⟩:=wT h5 (Dv p s c r i h.big h.wide)
   by_cases hf:nk p s c (r:Int) (i:Int)
   ·(refine oP (hA hf) ?_;conv=>whnf)
    repeat' ((first|refine nI ?_|refine aI ?_|refine tI ?_|refine fI ?_|fail);conv=>whnf)
    exact⟨.inl ⟨r,i,hrl,hil,hf,rfl⟩,rfl⟩
   ·(refine oP (hN hf) ?_;conv=>whnf)
    repeat' ((first|refine nI ?_|refine aI ?_|refine tI ?_|refine fI ?_|fail);conv=>whnf)
    refine⟨i+1,sI,⟨by omega,fun j hj=>?_⟩,by dsimp only;omega⟩
    by_cases e:j=i
    ·subst e;exact hf
    ·exact hb j (by omega)
  ·obtain rfl:i=c.states.length:=by omega
   repeat' ((first|refine nI ?_|refine aI ?_|refine tI ?_|refine fI ?_|fail);conv=>whnf)
   refine⟨r+1,sI,⟨by omega,fun a hal=>?_⟩,by dsimp only;omega⟩
   by_cases e:a=r
   ·subst e;exact hb
   ·exact ha a (by omega)
 ·obtain rfl:r=p.rules.length:=by omega
  exact⟨.inr ⟨ha,rfl⟩,rfl⟩
theorem Ge {a b:Nat} (h1:a<=8) (h2:b<=60):0<=(a:Int)*(b:Int)/\(a:Int)*(b:Int)<=480:=by
 have h:=Nat.mul_le_mul h1 h2
 have e:((a*b:Nat):Int)=(a:Int)*(b:Int):=Int.natCast_mul a b
 omega
theorem BR (p:an) (q:aE) (hp:g7 p) (hq:qk q) (s:aC) (r:Rn) (hc:yk r.start) (hl:r.steps.length<=140737488355328):
  ab Tryz.prog 4 [.agg (Er p q), .agg (bv s), .agg (wU r)] (fun u=>u= .bool true):=by
 have hs:=Hr
 have hR:=BM p q s r hp hq hc hl
 have hC:=AE p q hp hq
 refine ab.intro ac ae Tryz.func4 rfl (by decide) ?_;(conv=>whnf)
 refine ak rfl ?_
 conv=>whnf
 refine ak rfl ?_
 conv=>whnf
 refine ak rfl ?_
 conv=>whnf
 apply gS
 case k=>
  intro o1 o2 o3 o4 o5 o6
  refine Es [0,1,2,3] (by decide+kernel) ?_
  conv=>whnf
  repeat' first
   |exact True.intro
   |(refine And.intro ?_ ?_<;>conv=>whnf)
   |with_reducible exact o1
   |with_reducible exact o2
   |with_reducible exact o3
   |with_reducible exact o4
   |with_reducible exact o5
   |with_reducible exact o6
   |fail
 all_goals try first
  |exact True.intro
  |exact True
 all_goals
  by_cases hk2:q.kind=2
  rotate_left
  ·refine eI hk2 ?_
   conv=>whnf
   (refine oP (hs) ?_;conv=>whnf)
   exact⟨rfl,rfl⟩
  refine fI ?_
  conv=>whnf
  (refine oP (hC) ?_;conv=>whnf)
  by_cases hch:dl p q=0
  rotate_left
  ·refine eI hch ?_
   conv=>whnf
   (refine oP (hs) ?_;conv=>whnf)
   exact⟨rfl,rfl⟩
  refine fI ?_
  conv=>whnf
  rcases yv p q s r with ⟨e,e0,eA⟩|⟨hz,hk,eA⟩
  ·rw[eA] at hR
   unfold Ga at hR
   dsimp only at hR
   (refine oP (hR) ?_;conv=>whnf)
   refine eI e0 ?_
   conv=>whnf
   (refine oP (hs) ?_;conv=>whnf)
   exact⟨rfl,rfl⟩
  rw[eA] at hR
  unfold Ga at hR
  dsimp only at hR
  generalize (bI p q (pD p s r).1).map (IQ s r (pD p s r).2)=x at*
  generalize (pD p s r).1=sch at*
  have hlen:=hk.len
  have hsta:=hk.sta
  have hple:=aO hk.rdy.big
  have hcl:=br hk.rdy.wide
  have hzq:=(vN hz).2.2.2
  have hsc:=(rN hch).2
  (refine oP (hR) ?_;conv=>whnf)
  refine iA (by decide) ?_
  conv=>whnf
  apply gS
  case k=>
   intro o1 o2 o3 o4 o5 o6
   refine Es [0,1,3,4,6] (by decide+kernel) ?_
   conv=>whnf
   repeat' first
    |exact True.intro
    |(refine And.intro ?_ ?_<;>conv=>whnf)
    |(refine bD cH ef [] rfl ?_;conv=>whnf)
    |(refine bQ r.steps rfl (by clear o1 o2 o3 o4 o5 o6;simp only[List.length_nil];omega) ?_;conv=>whnf)
    |(refine fu ?_;conv=>whnf)
    |with_reducible exact o1
    |with_reducible exact o2
    |with_reducible exact o3
    |with_reducible exact o4
    |with_reducible exact o5
    |with_reducible exact o6
    |fail
  all_goals try first
   |exact True.intro
   |exact True
  all_goals
   refine aF.loopF ac ae (fun z:Nat×List cj=>bN p s r.start z.2/\z.2.length=r.steps.length+z.1) (fun z=>[(13, .int .i64 (z.1:Int)),(50, .top),(53, .top),(54, .top)]) (fun z=>[(7, .box 27 (aB p)),(8, .box 30 (cJ q)),(12, .box 64 (bd r.start++[.row 1000 z.2.length 3])),(1000, .row 77 cH ef z.2)]) (fun z=>100-z.1) (0,r.steps) ⟨hk.run,rfl⟩ ?_;conv=>whnf
   refine⟨aR.by_ [(7, .old 7),(8, .old 8),(12, .old 12),(1000, .old 53)] _ 400 rfl (aa) (aa),?_⟩
   rintro⟨k,xs⟩ ⟨h1,h2⟩
   dsimp only at h1 h2
   have hL:=r7 hk.thr hk.rdy h1
   have hT:=DS hk.thr hk.rdy h1
   have hM:=(gT hk.rdy).1
   have hmul:=Ge (a:=r.start.states.length) (b:=p.states.length) (by omega) (by omega)
   conv=>whnf
   refine aI ?_
   conv=>whnf
   refine tI ?_
   conv=>whnf
   have hrd:=i6 hk.rdy h1 xs.length (Nat.le_refl _)
   refine am.call [(300, .old 1000)] (lZ xs) 400 rfl (aa) (aa) (Hz p s ⟨r.start,xs⟩ hk.rdy hk.thr h1 (by dsimp only;omega)) ?_
   rintro u M' ⟨rfl,rfl⟩
   refine⟨[(1000, .old 300)],[(1000, .row 77 cH ef xs)], .tup [.agg (bd ((cE p r.start xs).getD xs.length aX)), .bool true],rfl,(aa),(aa),?_⟩
   conv=>whnf
   have hdw:=br hrd.wide
   have hvl:ub p s ((cE p r.start xs).getD xs.length aX)=0:=by
    unfold ub
    rw[if_neg (fun y=>y (pe hrd)),if_neg (fun y=>y hk.thr),km,if_pos hrd.vc]
   have hSt:=Bq p s ((cE p r.start xs).getD xs.length aX) hp (by unfold yk;omega)
   unfold DC at hSt
   rw[if_neg (fun y=>y hvl)] at hSt
   have hRe:=z8 p q ((cE p r.start xs).getD xs.length aX) hrd.big (jE hk.prp) hrd.wide
   unfold HO at hRe
   rw[if_neg (fun y=>y hk.prp),if_neg (fun y=>y hk2),if_pos hrd.plain] at hRe
   have hFo:=DW p s ((cE p r.start xs).getD xs.length aX) hrd
   have hIL:=BF p q s ⟨r.start,xs,[]⟩ hrd.big (jE hk.prp) hk.rdy.wide (by dsimp only;omega) (by simp) hk.thr
   have hIL:=hIL.arg (args:=[.agg (aB p), .agg (cJ q), .agg (bv s), .agg (bd r.start++[.sl cH ef xs, .nilsl])]) (aa) rfl
   have hsl:=fun hst=>BQ hk.thr hzq hk2 hsc hk.rdy hk.ini h1 hst
   have hex:=fun(i j:Nat) hf=>BO (r:=i) (i:=j) hk.thr hk.rdy hk.ini h1 (by omega) hf
   generalize (cE p r.start xs).getD xs.length aX=d at*
   by_cases hst:ym p s d
   ·rw[decide_eq_true hst] at hSt
    have hii:=hsl hst
    (refine oP (hSt) ?_;conv=>whnf)
    refine iA (by decide) ?_
    conv=>whnf
    by_cases hy:jD q d
    ·rw[decide_eq_true hy] at hRe
     rw[decide_eq_false (fun h=>hii.1 h hy)] at hIL
     (refine oP (hRe) ?_;conv=>whnf)
     refine eI (by decide) ?_
     conv=>whnf
     (refine am.borrow (n:=5) (hIL) rfl (by rintro _ rfl;rfl) ?_;rintro _ rfl;conv=>whnf)
     (refine oP (hs) ?_;conv=>whnf)
     exact⟨rfl,rfl⟩
    ·rw[decide_eq_false hy] at hRe
     rw[decide_eq_true (hii.2 hy)] at hIL
     (refine oP (hRe) ?_;conv=>whnf)
     refine eI (by decide) ?_
     conv=>whnf
     (refine am.borrow (n:=5) (hIL) rfl (by rintro _ rfl;rfl) ?_;rintro _ rfl;conv=>whnf)
     (refine oP (hs) ?_;conv=>whnf)
     exact⟨rfl,rfl⟩
   ·rw[decide_eq_false hst] at hSt
    (refine oP (hSt) ?_;conv=>whnf)
    refine iA (by decide) ?_
    conv=>whnf
    refine am.of_pure (n:=5) hFo (by rfl) ?_
    rintro u (⟨i,j,hi,hj,hf,rfl⟩|⟨hst',_⟩)
    rotate_left
    ·exact absurd hst' hst
    have hx:=hex i j hf
    conv=>whnf
    refine bD cH ef [⟨(i:Int),(j:Int),-1⟩] rfl ?_
    conv=>whnf
    refine bQ [⟨(i:Int),(j:Int),-1⟩] rfl lI ?_
    conv=>whnf
    refine Gr trivial (by dsimp only;omega) ?_
    conv=>whnf
    refine⟨(k+1,xs++[⟨(i:Int),(j:Int),-1⟩]),aR.by_ [(7, .old 7),(8, .old 8),(12, .old 12),(1000, .old 127)] _ 400 rfl (aa) (aa),⟨hx,?_⟩,by dsimp only;omega⟩
    dsimp only
    rw[List.length_append,List.length_singleton]
    omega
end Go.Proofs.YtekmminpfhacpaaGreatDoor
