import Derived.Test.YtnjggjhkfncnlaaGreatDoorTab
import Derived.Test.YtnjggjhkfncnlaaGreatDoorP1
import Derived.Test.YtnjggjhkfncnlaaGreatDoorFtE
import Derived.Test.YtnjggjhkfncnlaaGreatDoorV1
set_option linter.unusedVariables false
set_option linter.unusedSimpArgs false
namespace Go.Proofs.YtnjggjhkfncnlaaGreatDoor
set_option maxRecDepth 100000
def gh (k:Int×Int):Value:=.agg #[.int .i64 k.1, .int .i64 k.2]
theorem iX:nX Tryz.prog 77 gh:=by
 have ht:Tryz.prog.underlying 3=some (.int .i64):=Tryz.underlying3
 have hta:=Tryz.underlying77
 have hag:∀w,(isAgg 3).run Tryz.prog w= .ok false w:=fun w=>by simp[isAgg,run_underlying ht]
 have hsz:∀w,(Go.sizeOf 3).run Tryz.prog w= .ok 1 w:=fun w=>by
  obtain⟨i,hi⟩:∃i,tt.find 3=some i:=⟨_,rfl⟩
  have:=TOk.size ac hi w
  cases hi
  exact this
 refine nX.ask Tryz.underlying77 ?_ ?_ ?_ ?_ ?_
 ·rintro⟨a,b⟩ ⟨c,d⟩ h
  simpa[gh] using h
 ·rintro e ⟨a,b⟩ w
  have h4:∀n w,(Instr.checkKey e (n+2) 77 (gh (a,b))).run Tryz.prog w= .ok () w:=fun n w=>by
   simp[Instr.checkKey,run_underlying hta,run_underlying ht,gh,part,hag,hsz,Std.Legacy.Range.forIn_eq_forIn_range',List.range',List.forIn_cons,List.forIn_nil]
  exact h4 9998 w
 ·intro a b;rfl
 ·rintro⟨a,b⟩ ⟨c,d⟩ w
  refine⟨decide (a=c/\b=d),?_,by simp[gh]⟩
  have hI:∀n w (x y:Int),(Op.equalIn (n+1) 3 (.int .i64 x) (.int .i64 y)).run Tryz.prog w= .ok (x==y) w:=fun n w x y=>by
   rw[Op.equalIn]
   simp[run_underlying ht]
  have h4:∀n w,(Op.equalIn (n+2) 77 (gh (a,b)) (gh (c,d))).run Tryz.prog w= .ok (decide (a=c/\b=d)) w:=fun n w=>by
   rw[Op.equalIn]
   simp only[Sem.run_bind,run_underlying hta,Result.andThen_ok,gh]
   simp[part,hag,hsz,hI,Std.Legacy.Range.forIn_eq_forIn_range',List.range',List.forIn_cons,List.forIn_nil]
   by_cases h1:a=c<;>by_cases h2:b=d<;>simp[h1,h2]
  exact h4 9998 w
 ·rintro⟨a,b⟩
  have h4:∀n,Instr.sameBits (n+1) (gh (a,b)) (gh (a,b))=true:=fun n=>by simp[gh,Instr.sameBits]
  exact h4 9999
set_option maxHeartbeats 16000000
theorem ak.idn {P:Program} {f:FuncId} {args:List AV} {L0 L:List (Nat×cn)} {u0:AV} (hb:(i7 (nn L) L&&i8 L (nn L)&&rg (nn L) (L0.map (·.1)))=true) (hu:jr (nn L) 400 u0 u0)
  (h:ak P f args (aj.ofL L0) (fun u M=>u=u0/\cU (nn L) 400 M L)):ak P f args (aj.ofL L0) (fun u M=>u=u0/\M=aj.ofL L):=
 h.norm 400 fun u M' ⟨e,hM⟩=>⟨L,u0,hb,hM,by rw[e];exact hu,rfl,rfl⟩
abbrev Gc (p:au) (q:aV) (sch:List Int) (n lr nr:Nat):List AV:=[.pd (ez p q), .sl 0 an sch, .int .i64 n, .mp 210, .mp 211, .mp 212, .mp 213, .mp 214, .mp 215, .mp 216, .row lr nr 2]
noncomputable abbrev fM (vars:List Vb) (k:Int):cn:=.map gh (Value.int .i64) (kG vars k vars.length)
noncomputable abbrev c9 (p:au) (q:aV) (sch:List Int) (vars:List Vb) (rows:List cK):List (Nat×cn):=
 [(200, .box 76 (Gc p q sch vars.length 201 rows.length)),(201, .row 154 bz bE rows),(210,fM vars 0),(211,fM vars 1),(212,fM vars 2),(213,fM vars 3),(214,fM vars 4),(215,fM vars 5),(216,fM vars 6)]
noncomputable abbrev eE (p:au) (q:aV) (sch:List Int) (vars:List Vb) (rows:List cK) (co:Co) (c:Int):List (Nat×cn):=
 [(200, .box 76 (Gc p q sch vars.length 201 rows.length)),(201, .row 154 bz bE rows),(210,fM vars 0),(211,fM vars 1),(212,fM vars 2),(213,fM vars 3),(214,fM vars 4),(215,fM vars 5),(216,fM vars 6),
  (220, .box 154 [.row 221 vars.length 1, .int .i64 c]),(221, .row 3 0 an (vars.map co))]
def m0:cT:=[(200, .old 200),(201, .old 201),(210, .old 210),(211, .old 211),(212, .old 212),(213, .old 213),(214, .old 214),(215, .old 215),(216, .old 216),(220, .old 220),(221, .old 221)]
def iY (X:Int) (co:Co):Prop:=∀v,-X<=co v/\co v<=X
theorem xl (p:au) (q:aV) (sch:List Int) (vars:List Vb) (rows:List cK) (co:Co) (c:Int) (hn:vars.Nodup) (hv:vars.length<=1000000) (kind:Nat) (hk:kind<7) (seg idx k:Int) (hb:iY 1152921504606846976 co) (hf:-1152921504606846976<=k/\k<=1152921504606846976):
  ak Tryz.prog 167 [.ptr 200 0, .ptr 220 0, .int .i64 k, .int .i64 (kind:Int), .int .i64 seg, .int .i64 idx] (aj.ofL (eE p q sch vars rows co c))
   (fun u M=>u= .tup []/\M=aj.ofL (eE p q sch vars rows (d6 co ⟨kind,seg,idx⟩ k) c)):=by
 have hs:∀b,kG vars kind vars.length (seg,idx)=some b->∃m:Nat,b=m/\m<vars.length/\(vars.map co).set m ((vars.map co).getD m 0+k)=vars.map (d6 co ⟨kind,seg,idx⟩ k):=by
  intro b h
  obtain⟨m,rfl,hm,e⟩:=jg h
  refine⟨m,rfl,hm,?_⟩
  rw[b9 co hm,EY co k hn hm,e]
 have hno:kG vars kind vars.length (seg,idx)=none->vars.map co=vars.map (d6 co ⟨kind,seg,idx⟩ k):=fun h=>(BX co k (rO h)).symm
 have hg:∀m,m<vars.length->-1152921504606846976<=(vars.map co).getD m 0/\(vars.map co).getD m 0<=1152921504606846976:=fun m hm=>by rw[b9 co hm];exact hb _
 have hl:(vars.map co).length=vars.length:=List.length_map ..
 refine ak.idn rfl trivial ?_
 generalize hA:vars.map co=A at hs hno hg hl
 generalize hB:vars.map (d6 co ⟨kind,seg,idx⟩ k)=B at hs hno
 have eA:eE p q sch vars rows co c=[(200, .box 76 (Gc p q sch vars.length 201 rows.length)),(201, .row 154 bz bE rows),(210,fM vars 0),(211,fM vars 1),(212,fM vars 2),(213,fM vars 3),(214,fM vars 4),(215,fM vars 5),(216,fM vars 6),
  (220, .box 154 [.row 221 vars.length 1, .int .i64 c]),(221, .row 3 0 an A)]:=by unfold eE;rw[hA]
 have eB:eE p q sch vars rows (d6 co ⟨kind,seg,idx⟩ k) c=[(200, .box 76 (Gc p q sch vars.length 201 rows.length)),(201, .row 154 bz bE rows),(210,fM vars 0),(211,fM vars 1),(212,fM vars 2),(213,fM vars 3),(214,fM vars 4),(215,fM vars 5),(216,fM vars 6),
  (220, .box 154 [.row 221 vars.length 1, .int .i64 c]),(221, .row 3 0 an B)]:=by unfold eE;rw[hB]
 rw[eA,eB]
 clear eA eB hA hB hb
 obtain rfl|rfl|rfl|rfl|rfl|rfl|rfl:kind=0\/kind=1\/kind=2\/kind=3\/kind=4\/kind=5\/kind=6:=by omega
 all_goals
  refine ak.intro ac ag [(200, .box 76 (Gc p q sch vars.length 201 rows.length)),(201, .row 154 bz bE rows),(210,fM vars 0),(211,fM vars 1),(212,fM vars 2),(213,fM vars 3),(214,fM vars 4),(215,fM vars 5),(216,fM vars 6),
  (220, .box 154 [.row 221 vars.length 1, .int .i64 c]),(221, .row 3 0 an A)] Tryz.func167 rfl (by decide) ?_
  (conv=>whnf)
  refine bI (by decide) ?_
  (conv=>whnf)
  refine AR iX (seg,idx) rfl (fun b hb=>?_) (fun hb=>?_)<;>(conv=>whnf)
  ·obtain⟨m,rfl,hm,e⟩:=hs b hb
   have h1:=hg m hm
   have h2:-1152921504606846976<=A.getD (m:Int).toNat 0/\A.getD (m:Int).toNat 0<=1152921504606846976:=by rw[tN];exact h1
   subst e
   repeat' ((first|refine nI ?_|refine aI ?_|refine tI ?_|refine fI ?_|fail);conv=>whnf)
   refine ap (A.getD (m:Int).toNat 0+k) rfl ?_
   (conv=>whnf)
   exact⟨rfl,(aa)⟩
  ·have e:=hno hb
   subst e
   exact⟨rfl,(aa)⟩
theorem Fm (p:au) (q:aV) (sch:List Int) (vars:List Vb) (rows:List cK) (co:Co) (c:Int) (hn:vars.Nodup) (hv:vars.length<=1000000) (kind:Int) (hk:0<=kind/\kind<7) (seg idx k:Int) (hb:iY 1152921504606846976 co) (hf:-1152921504606846976<=k/\k<=1152921504606846976):
  ak Tryz.prog 167 [.ptr 200 0, .ptr 220 0, .int .i64 k, .int .i64 kind, .int .i64 seg, .int .i64 idx] (aj.ofL (eE p q sch vars rows co c))
   (fun u M=>u= .tup []/\M=aj.ofL (eE p q sch vars rows (d6 co ⟨kind,seg,idx⟩ k) c)):=by
 obtain⟨n,rfl⟩:∃n:Nat,kind=n:=⟨kind.toNat,by omega⟩
 exact xl p q sch vars rows co c hn hv n (by omega) seg idx k hb hf
theorem oM {X:Int} {co:Co} (h:iY X co) (v0:Vb) {k Y:Int} (hk:-Y<=k/\k<=Y) (hY:0<=Y):iY (X+Y) (d6 co v0 k):=fun v=>by
 unfold d6
 have:=h v
 split<;>omega
theorem aC {X Y:Int} {co:Co} (h:iY X co) (hX:X<=Y):iY Y co:=fun v=>by
 have:=h v
 omega
theorem oN {k a:Int} (hk:bO k) (ha:bO a):-10000<=k*a/\k*a<=10000:=tg hk ha
theorem zX (p:au) (q:aV) (sch:List Int) (vars:List Vb) (rows:List cK) (co:Co) (c:Int) (hn:vars.Nodup) (hv:vars.length<=1000000) (k:Int) (l:g7) (hb:iY 1099511627776 co) (hc:-1099511627776<=c/\c<=1099511627776) (hk:bO k) (hl:c6 l):
  ak Tryz.prog 166 [.ptr 200 0, .ptr 220 0, .int .i64 k, .agg (bM l)] (aj.ofL (eE p q sch vars rows co c))
   (fun u M=>u= .tup []/\M=aj.ofL (eE p q sch vars rows (ba co k (bf l)) (c+k*l.c))):=by
 obtain⟨lc,ln,lt,lf⟩:=hl
 have b0:=oN hk lc
 have b1:=oN hk ln
 have b2:=oN hk lt
 have b3:=oN hk lf
 have e1:=oM hb ⟨0,0,0⟩ (k:=k*l.n) (Y:=10000) (by omega) (by omega)
 have e2:=oM e1 ⟨1,0,0⟩ (k:=k*l.t) (Y:=10000) (by omega) (by omega)
 have a1:=Fm p q sch vars rows co c hn hv 0 (by omega) 0 0 (k*l.n) (aC hb (by omega)) (by omega)
 have a2:=Fm p q sch vars rows _ c hn hv 1 (by omega) 0 0 (k*l.t) (aC e1 (by omega)) (by omega)
 have a3:=Fm p q sch vars rows _ c hn hv 2 (by omega) 0 0 (k*l.f) (aC e2 (by omega)) (by omega)
 rw[E4] at a3
 generalize d6 co ⟨0,0,0⟩ (k*l.n)=d1 at*
 generalize d6 d1 ⟨1,0,0⟩ (k*l.t)=d2 at*
 refine ak.idn rfl trivial ?_
 refine ak.intro ac ag (eE p q sch vars rows co c) Tryz.func166 rfl (by decide) ?_
 simp only[eV]
 rw[show Tryz.f166.ntmps=40 from rfl]
 simp only[cy]
 simp only[dv]
 rw[bu]
 simp only[gv,aJ,List.map_cons,List.map_nil,bc]
 conv=>whnf
 refine al rfl ?_
 conv=>whnf
 repeat' ((first|refine nI ?_|refine aI ?_|refine tI ?_|refine fI ?_|fail);conv=>whnf)
 refine ak.call m0 (eE p q sch vars rows co c) 400 rfl (aa) (aa) a1 ?_
 rintro u M' ⟨rfl,rfl⟩
 refine⟨m0,eE p q sch vars rows d1 c, .tup [],rfl,(aa),trivial,?_⟩
 conv=>whnf
 repeat' ((first|refine nI ?_|refine aI ?_|refine tI ?_|refine fI ?_|fail);conv=>whnf)
 refine ak.call m0 (eE p q sch vars rows d1 c) 400 rfl (aa) (aa) a2 ?_
 rintro u M' ⟨rfl,rfl⟩
 refine⟨m0,eE p q sch vars rows d2 c, .tup [],rfl,(aa),trivial,?_⟩
 conv=>whnf
 repeat' ((first|refine nI ?_|refine aI ?_|refine tI ?_|refine fI ?_|fail);conv=>whnf)
 refine ak.call m0 (eE p q sch vars rows d2 c) 400 rfl (aa) (aa) a3 ?_
 rintro u M' ⟨rfl,rfl⟩
 refine⟨m0,eE p q sch vars rows (ba co k (bf l)) c, .tup [],rfl,(aa),trivial,?_⟩
 conv=>whnf
 refine Be rfl ?_
 conv=>whnf
 repeat' ((first|refine nI ?_|refine aI ?_|refine tI ?_|refine fI ?_|fail);conv=>whnf)
 exact⟨rfl,(aa)⟩
theorem CU (rs:List bp) (start fire state:Int) (co:Co) (k:Int):d6 co ⟨start,0,state⟩ k=ba co k (cW rs start fire state 0 0):=by
 funext v
 have h:¬fK rs.length fire (0:Nat) 0 v:=by unfold fK;omega
 unfold d6 ba cW
 rw[if_neg h]
 by_cases e:v=⟨start,0,state⟩
 ·rw[if_pos e,if_pos e];omega
 ·rw[if_neg e,if_neg e];omega
theorem CV (rs:List bp) (fire message:Int) (co:Co) (k:Int):ba co k (cX rs fire message 0 0)=co:=by
 funext v
 have h:¬(fK rs.length fire (0:Nat) 0 v/\message∈(rs.getD v.idx.toNat ar).send):=by unfold fK;omega
 unfold ba cX
 rw[if_neg h];omega
theorem f5 {X:Int} {co d:Co} {k:Int} (h:iY X co) (hk:bO k) (hd:∀v,-2<=d v/\d v<=2):iY (X+200) (ba co k d):=fun v=>by
 have a:=h v
 have b:-(100*2)<=k*d v/\k*d v<=100*2:=tg hk (hd v)
 unfold ba
 omega
theorem yx (p:au) (q:aV) (sch:List Int) (vars:List Vb) (rows:List cK) (co:Co) (c:Int) (hn:vars.Nodup) (hv:vars.length<=1000000) (k state:Int) (start fire seg:Nat) (hst:start<7) (hfi:fire<7) (hsg:seg<=10) (hr:p.rules.length<=1000) (hb:iY 1099511627776 co) (hk:bO k):
  ak Tryz.prog 169 [.ptr 200 0, .ptr 220 0, .int .i64 k, .int .i64 (start:Int), .int .i64 (fire:Int), .int .i64 state, .int .i64 (seg:Int)] (aj.ofL (eE p q sch vars rows co c))
   (fun u M=>u= .tup []/\M=aj.ofL (eE p q sch vars rows (ba co k (cW p.rules start fire state (seg+1) 0)) c)):=by
 have hkb:-100<=k/\k<=100:=hk
 have a0:=xl p q sch vars rows co c hn hv start hst 0 state k (aC hb (by omega)) (by omega)
 rw[CU p.rules start fire state] at a0
 have hFb:∀j i,iY 1099511627976 (ba co k (cW p.rules start fire state j i)):=fun j i=>f5 hb hk fun v=>by have:=BZ p.rules start fire state j i v;omega
 have hFn:=fun j i=>B5 p.rules start fire state j i co k
 have hFe:=fun j=>congrArg (ba co k) (EZ p.rules start fire state j)
 obtain⟨F,hF⟩:∃F:Nat->Nat->Co,F=fun j i=>ba co k (cW p.rules start fire state j i):=⟨_,rfl⟩
 have e0:∀j i,ba co k (cW p.rules start fire state j i)=F j i:=fun j i=>by rw[hF]
 simp only[e0] at a0 hFb hFn hFe
 rw[e0]
 clear e0 hF
 refine ak.idn rfl trivial ?_
 refine ak.intro ac ag (eE p q sch vars rows co c) Tryz.func169 rfl (by decide) ?_
 conv=>whnf
 refine ak.call m0 (eE p q sch vars rows co c) 400 rfl (aa) (aa) a0 ?_
 rintro u M' ⟨rfl,rfl⟩
 refine⟨m0,eE p q sch vars rows (F 0 0) c, .tup [],rfl,(aa),trivial,?_⟩
 conv=>whnf
 repeat' ((first|refine nI ?_|refine aI ?_|refine tI ?_|refine fI ?_|fail);conv=>whnf)
 refine aH.loopF ac ag (fun j:Nat=>j<=seg+1) (fun j=>[(25, .int .i64 (j:Int))]) (fun j=>eE p q sch vars rows (F j 0) c) (fun j=>seg+1-j) 0 (Nat.zero_le _) ?_;conv=>whnf
 refine⟨aL.by_ m0 _ 400 rfl (aa) (aa),?_⟩
 rintro j hj
 conv=>whnf
 refine ah ?_ ?_<;>(intro h1;conv=>whnf)
 ·repeat' ((first|refine nI ?_|refine aI ?_|refine tI ?_|refine fI ?_|fail);conv=>whnf)
  refine aH.loopF ac ag (fun i:Nat=>i<=p.rules.length) (fun i=>[(37, .int .i64 (i:Int))]) (fun i=>eE p q sch vars rows (F j i) c) (fun i=>p.rules.length-i) 0 (Nat.zero_le _) ?_;conv=>whnf
  refine⟨aL.by_ m0 _ 400 rfl (aa) (aa),?_⟩
  rintro i hi
  conv=>whnf
  refine ah ?_ ?_<;>(intro h2;conv=>whnf)
  ·have hlt:i<p.rules.length:=by omega
   have hs:=hFn j i
   unfold B4 at hs
   dsimp only at hs
   repeat' ((first|refine nI ?_|refine aI ?_|refine tI ?_|refine fI ?_|fail);conv=>whnf)
   refine ah ?_ ?_<;>(intro h3;conv=>whnf)
   ·rw[tN] at h3;rw[if_pos h3] at hs
    have a1:=xl p q sch vars rows (F j i) c hn hv fire hfi j i k (aC (hFb j i) (by omega)) (by omega)
    have hG:=oM (hFb j i) ⟨fire,j,i⟩ (k:=k) (Y:=100) hkb (by omega)
    generalize d6 (F j i) ⟨fire,j,i⟩ k=G at a1 hs hG
    repeat' ((first|refine nI ?_|refine aI ?_|refine tI ?_|refine fI ?_|fail);conv=>whnf)
    refine ak.call m0 (eE p q sch vars rows (F j i) c) 400 rfl (aa) (aa) a1 ?_
    rintro u M' ⟨rfl,rfl⟩
    refine⟨m0,eE p q sch vars rows G c, .tup [],rfl,(aa),trivial,?_⟩
    conv=>whnf
    repeat' ((first|refine nI ?_|refine aI ?_|refine tI ?_|refine fI ?_|fail);conv=>whnf)
    refine ah ?_ ?_<;>(intro h4;conv=>whnf)
    ·rw[tN] at h4;rw[if_pos h4] at hs
     have a2:=xl p q sch vars rows G c hn hv fire hfi j i (-k) (aC hG (by omega)) (by omega)
     rw[<-hs] at a2
     repeat' ((first|refine nI ?_|refine aI ?_|refine tI ?_|refine fI ?_|fail);conv=>whnf)
     refine ak.call m0 (eE p q sch vars rows G c) 400 rfl (aa) (aa) a2 ?_
     rintro u M' ⟨rfl,rfl⟩
     refine⟨m0,eE p q sch vars rows (F j (i+1)) c, .tup [],rfl,(aa),trivial,?_⟩
     conv=>whnf
     repeat' ((first|refine nI ?_|refine aI ?_|refine tI ?_|refine fI ?_|fail);conv=>whnf)
     refine⟨i+1,?_,by omega,by dsimp only;omega⟩
     exact aL.by_ m0 _ 400 rfl (aa) (aa)
    ·rw[tN] at h4;rw[if_neg h4] at hs
     repeat' ((first|refine nI ?_|refine aI ?_|refine tI ?_|refine fI ?_|fail);conv=>whnf)
     refine⟨i+1,?_,by omega,by dsimp only;omega⟩
     dsimp only
     rw[hs]
     exact aL.by_ m0 _ 400 rfl (aa) (aa)
   ·rw[tN] at h3;rw[if_neg h3] at hs
    repeat' ((first|refine nI ?_|refine aI ?_|refine tI ?_|refine fI ?_|fail);conv=>whnf)
    refine ah ?_ ?_<;>(intro h4;conv=>whnf)
    ·rw[tN] at h4;rw[if_pos h4] at hs
     have a2:=xl p q sch vars rows (F j i) c hn hv fire hfi j i (-k) (aC (hFb j i) (by omega)) (by omega)
     rw[<-hs] at a2
     repeat' ((first|refine nI ?_|refine aI ?_|refine tI ?_|refine fI ?_|fail);conv=>whnf)
     refine ak.call m0 (eE p q sch vars rows (F j i) c) 400 rfl (aa) (aa) a2 ?_
     rintro u M' ⟨rfl,rfl⟩
     refine⟨m0,eE p q sch vars rows (F j (i+1)) c, .tup [],rfl,(aa),trivial,?_⟩
     conv=>whnf
     repeat' ((first|refine nI ?_|refine aI ?_|refine tI ?_|refine fI ?_|fail);conv=>whnf)
     refine⟨i+1,?_,by omega,by dsimp only;omega⟩
     exact aL.by_ m0 _ 400 rfl (aa) (aa)
    ·rw[tN] at h4;rw[if_neg h4] at hs
     repeat' ((first|refine nI ?_|refine aI ?_|refine tI ?_|refine fI ?_|fail);conv=>whnf)
     refine⟨i+1,?_,by omega,by dsimp only;omega⟩
     dsimp only
     rw[hs]
     exact aL.by_ m0 _ 400 rfl (aa) (aa)
  ·repeat' ((first|refine nI ?_|refine aI ?_|refine tI ?_|refine fI ?_|fail);conv=>whnf)
   refine⟨j+1,?_,by omega,by dsimp only;omega⟩
   obtain rfl:i=p.rules.length:=by omega
   dsimp only
   rw[<-hFe j]
   exact aL.by_ m0 _ 400 rfl (aa) (aa)
 ·obtain rfl:j=seg+1:=by omega
  exact⟨rfl,(aa)⟩
theorem yy (p:au) (q:aV) (sch:List Int) (vars:List Vb) (rows:List cK) (co:Co) (c:Int) (hn:vars.Nodup) (hv:vars.length<=1000000) (k message:Int) (fire seg:Nat) (hfi:fire<7) (hsg:seg<=10) (hr:p.rules.length<=1000) (hsd:∀i,i<p.rules.length->(p.rules.getD i ar).send.length<=1000000) (hb:iY 1099511627776 co) (hk:bO k):
  ak Tryz.prog 168 [.ptr 200 0, .ptr 220 0, .int .i64 k, .int .i64 (fire:Int), .int .i64 message, .int .i64 (seg:Int)] (aj.ofL (eE p q sch vars rows co c))
   (fun u M=>u= .tup []/\M=aj.ofL (eE p q sch vars rows (ba co k (cX p.rules fire message seg 0)) c)):=by
 have hkb:-100<=k/\k<=100:=hk
 have hF0:=CV p.rules fire message co k
 have hFb:∀j i,iY 1099511627976 (ba co k (cX p.rules fire message j i)):=fun j i=>f5 hb hk fun v=>by have:=rP p.rules fire message j i v;omega
 have hFn:=fun j i=>B3 p.rules fire message j i co k
 have hFe:=fun j=>congrArg (ba co k) (E0 p.rules fire message j)
 obtain⟨F,hF⟩:∃F:Nat->Nat->Co,F=fun j i=>ba co k (cX p.rules fire message j i):=⟨_,rfl⟩
 have e0:∀j i,ba co k (cX p.rules fire message j i)=F j i:=fun j i=>by rw[hF]
 simp only[e0] at hF0 hFb hFn hFe
 rw[e0]
 clear e0 hF
 subst hF0
 refine ak.idn rfl trivial ?_
 refine ak.intro ac ag (eE p q sch vars rows (F 0 0) c) Tryz.func168 rfl (by decide) ?_
 conv=>whnf
 refine aH.loopF ac ag (fun j:Nat=>j<=seg) (fun j=>[(16, .int .i64 (j:Int))]) (fun j=>eE p q sch vars rows (F j 0) c) (fun j=>seg-j) 0 (Nat.zero_le _) ?_;conv=>whnf
 refine⟨aL.by_ m0 _ 400 rfl (aa) (aa),?_⟩
 rintro j hj
 conv=>whnf
 refine ah ?_ ?_<;>(intro h1;conv=>whnf)
 ·repeat' ((first|refine nI ?_|refine aI ?_|refine tI ?_|refine fI ?_|fail);conv=>whnf)
  refine aH.loopF ac ag (fun i:Nat=>i<=p.rules.length) (fun i=>[(28, .int .i64 (i:Int))]) (fun i=>eE p q sch vars rows (F j i) c) (fun i=>p.rules.length-i) 0 (Nat.zero_le _) ?_;conv=>whnf
  refine⟨aL.by_ m0 _ 400 rfl (aa) (aa),?_⟩
  rintro i hi
  conv=>whnf
  refine ah ?_ ?_<;>(intro h2;conv=>whnf)
  ·have hlt:i<p.rules.length:=by omega
   have hs:=hFn j i
   repeat' ((first|refine nI ?_|refine aI ?_|refine tI ?_|refine fI ?_|fail);conv=>whnf)
   refine dC (bV (p.rules.getD i ar).send message (Nat.le_trans (hsd i hlt) (by omega))) (fun _=>?_) (fun _=>?_)<;>(conv=>whnf)
   ·rename_i h3
    rw[if_pos h3] at hs
    have a1:=xl p q sch vars rows (F j i) c hn hv fire hfi j i k (aC (hFb j i) (by omega)) (by omega)
    rw[<-hs] at a1
    repeat' ((first|refine nI ?_|refine aI ?_|refine tI ?_|refine fI ?_|fail);conv=>whnf)
    refine ak.call m0 (eE p q sch vars rows (F j i) c) 400 rfl (aa) (aa) a1 ?_
    rintro u M' ⟨rfl,rfl⟩
    refine⟨m0,eE p q sch vars rows (F j (i+1)) c, .tup [],rfl,(aa),trivial,?_⟩
    conv=>whnf
    repeat' ((first|refine nI ?_|refine aI ?_|refine tI ?_|refine fI ?_|fail);conv=>whnf)
    refine⟨i+1,?_,by omega,by dsimp only;omega⟩
    exact aL.by_ m0 _ 400 rfl (aa) (aa)
   ·rename_i h3
    rw[if_neg h3] at hs
    repeat' ((first|refine nI ?_|refine aI ?_|refine tI ?_|refine fI ?_|fail);conv=>whnf)
    refine⟨i+1,?_,by omega,by dsimp only;omega⟩
    dsimp only
    rw[hs]
    exact aL.by_ m0 _ 400 rfl (aa) (aa)
  ·repeat' ((first|refine nI ?_|refine aI ?_|refine tI ?_|refine fI ?_|fail);conv=>whnf)
   refine⟨j+1,?_,by omega,by dsimp only;omega⟩
   obtain rfl:i=p.rules.length:=by omega
   dsimp only
   rw[<-hFe j]
   exact aL.by_ m0 _ 400 rfl (aa) (aa)
 ·obtain rfl:j=seg:=by omega
  exact⟨rfl,(aa)⟩
def dh:cT:=[(200, .old 200),(201, .old 201),(210, .old 210),(211, .old 211),(212, .old 212),(213, .old 213),(214, .old 214),(215, .old 215),(216, .old 216)]
noncomputable abbrev mH (p:au) (q:aV) (sch:List Int) (vars:List Vb) (rows:List cK):List (Nat×cn):=
 [(200, .box 76 (Gc p q sch vars.length 202 rows.length)),(201, .dead),(202, .row 154 bz bE rows),(210,fM vars 0),(211,fM vars 1),(212,fM vars 2),(213,fM vars 3),(214,fM vars 4),(215,fM vars 5),(216,fM vars 6)]
theorem mI (vars:List Vb):List.replicate vars.length (0:Int)=vars.map zC:=by
 apply List.ext_getElem
 ·simp
 ·intro i h1 h2;simp[zC]
theorem xm (p:au) (q:aV) (sch:List Int) (vars:List Vb) (rows:List cK) (hv:vars.length<=1000000):
  ak Tryz.prog 165 [.ptr 200 0] (aj.ofL (c9 p q sch vars rows))
   (fun u M=>u= .agg [.row 221 vars.length 1, .int .i64 0]/\M=aj.ofL (c9 p q sch vars rows++[(221, .row 3 0 an (vars.map zC))])):=by
 rw[<-mI]
 refine ak.renorm 400 (R:=fun u M=>u= .agg [.row 7 vars.length 1, .int .i64 0]/\cU (dh++[(221, .old 7)]) 400 M (c9 p q sch vars rows++[(221, .row 3 0 an (List.replicate vars.length (0:Int)))])) ?_ ?_
 case refine_2=>
  rintro u M ⟨rfl,hM⟩
  exact⟨dh++[(221, .old 7)],_,_,rfl,hM,(aa),rfl,rfl⟩
 refine ak.intro ac ag (c9 p q sch vars rows) Tryz.func165 rfl (by decide) ?_
 conv=>whnf
 refine xF 0 an 0 rfl (by dsimp only;omega) ?_
 conv=>whnf
 exact⟨rfl,(aa)⟩
theorem Kg (p:au) (q:aV) (sch:List Int) (vars:List Vb) (rows:List cK) (hn:vars.Nodup) (hv:vars.length<=1000000) (hr:rows.length<=1000000) (l:g7) (hl:c6 l):
  ak Tryz.prog 92 [.ptr 200 0, .agg (bM l)] (aj.ofL (c9 p q sch vars rows))
   (fun u M=>u= .tup []/\M=aj.ofL (mH p q sch vars (rows++[aN vars (lP l)]))):=by
 have hz:iY 1099511627776 zC:=fun v=>by unfold zC;omega
 have a1:=zX p q sch vars rows zC 0 hn hv 1 l hz (by omega) (by unfold bO;omega) hl
 have e1:ba zC 1 (bf l)=bf l:=by funext v;unfold ba zC;omega
 have e2:0+1*l.c=l.c:=by omega
 rw[e1,e2] at a1
 refine ak.renorm 400 (R:=fun u M=>u= .tup []/\cU ((202, .old 17)::dh) 400 M (mH p q sch vars (rows++[aN vars (lP l)]))) ?_ ?_
 case refine_2=>
  rintro u M ⟨rfl,hM⟩
  exact⟨(202, .old 17)::dh,_, .tup [],rfl,hM,trivial,rfl,rfl⟩
 refine ak.intro ac ag (c9 p q sch vars rows) Tryz.func92 rfl (by decide) ?_
 simp only[eV]
 rw[show Tryz.f92.ntmps=20 from rfl]
 simp only[cy]
 simp only[dv]
 rw[bu]
 simp only[gv,aJ,List.map_cons,List.map_nil,bc]
 conv=>whnf
 refine al rfl ?_
 conv=>whnf
 refine ak.call dh (c9 p q sch vars rows) 400 rfl (aa) (aa) (xm p q sch vars rows hv) ?_
 rintro u M' ⟨rfl,rfl⟩
 refine⟨dh++[(221, .old 221)],c9 p q sch vars rows++[(221, .row 3 0 an (vars.map zC))], .agg [.row 221 vars.length 1, .int .i64 0],rfl,(aa),(aa),?_⟩
 conv=>whnf
 refine ak.call (dh++[(220, .old 4),(221, .old 221)]) (eE p q sch vars rows zC 0) 400 rfl (aa) (aa) a1 ?_
 rintro u M' ⟨rfl,rfl⟩
 refine⟨dh++[(4, .old 220),(221, .old 221)],c9 p q sch vars rows++[(4, .box 154 [.row 221 vars.length 1, .int .i64 l.c]),(221, .row 3 0 an (vars.map (bf l)))], .tup [],rfl,(aa),trivial,?_⟩
 conv=>whnf
 refine mn ?_
 conv=>whnf
 repeat' first
  |exact True.intro
  |(refine And.intro ?_ ?_<;>conv=>whnf)
  |(refine bw bz bE [aN vars (lP l)] rfl ?_;conv=>whnf)
  |(refine cb ?_;conv=>whnf)
  |(refine bD [aN vars (lP l)] rfl lI ?_;conv=>whnf)
  |exact rfl
  |exact(List.length_append ..).symm
  |fail
def Iu:Op->Bool
 |.move _| .fieldAddr _ _ _| .nilCheck _| .indexAddr _ _ _| .build _ _| .field _ _ _=>true
 |_=>false
def eN (d:Nat) (xs:List Operand):Bool:=xs.any fun x=>match x with
 |.tmp t=>Nat.beq t d
 |_=>false
def fN (x:Oper) (q:Nat):Bool:=x.after.toList.any fun e=>Region.binds .any e&&Nat.beq e.on q
def vD (d:Nat):Option Tmp->Bool
 |some e=>!(Nat.beq e d)
 |none=>true
def zY (all:List Oper) (q:Nat):Bool:=match all[q]? with
 |none=>false
 |some o=>match o.dst with
  |none=>false
  |some d=>Iu o.op&&o.guard.isNone&&(List.range all.length).all fun j=>Nat.beq j q||match all[j]? with
   |none=>true
   |some x=>x.guard.isNone&&vD d x.dst&&(!(eN d (aJ x.op))||fN x q)&&(match x.dst with|none=>true|some e=>!(eN e (aJ o.op))||fN o j)
def tu:List Nat->List Nat->Option Nat
 |[],_=>none
 |q::qs,l=>match l.any (Nat.beq q) with
  |true=>some q
  |false=>tu qs l
def I' (tt:TT) (all:List Oper) (q:Nat) (fr:List AV) (k1:List AV->Prop) (k2:Prop):Prop:=match all[q]? with
 |none=>k2
 |some o=>wv fr (aJ o.op) fun us=>match qC tt o.op us with
  |.val u=>kc u fun u=>lh fr o.dst u k1
  |_=>k2
def mJ (P:Program) (tt:TT) (d:Option aM) (all:List Oper) (qs:List Nat) (K:List AV->aj->Prop):Nat->List Nat->List AV->aj->Prop
 |0,done,fr,M=>match cC all done with
  |[]=>K fr M
  |_::_=>False
 |n+1,done,fr,M=>match cC all done with
  |[]=>K fr M
  |i::l=>match tu qs (i::l) with
   |none=>lJ (i::l) fun j=>v4 P tt d all j fr M (mJ P tt d all qs K n (j::done))
   |some q=>I' tt all q fr (fun fr'=>mJ P tt d all qs K n (q::done) fr' M) (lJ (i::l) fun j=>v4 P tt d all j fr M (mJ P tt d all qs K n (j::done)))
section
variable {P:Program} {tt:TT} {dm:Option aM} {all:List Oper} {K K':List AV->aj->Prop} {fr:List AV} {M:aj}
theorem mK:∀{qs l:List Nat} {q:Nat},tu qs l=some q->q∈qs/\q∈l
 |[],_,_,h=>by cases h
 |a::qs,l,q,h=>by
  rw[tu] at h
  split at h
  ·rename_i ha
   cases h
   exact⟨List.mem_cons_self,fy.1 ha⟩
  ·obtain⟨h1,h2⟩:=mK h
   exact⟨List.mem_cons_of_mem _ h1,h2⟩
theorem ji {d:Nat} {u:AV}:∀{xs:List Operand},eN d xs=false->xs.map (db (fr.set d u))=xs.map (db fr)
 |[],_=>rfl
 |x::xs,h=>by
  unfold eN at h
  rw[List.any_cons,Bool.or_eq_false_iff] at h
  rw[List.map_cons,List.map_cons,ji (xs:=xs) h.2]
  congr 1
  cases x with
  |tmp t=>
   have hne:t≠d:=fun e=>by subst e;simp at h
   simp only[db,gD,List.getElem?_set_ne (Ne.symm hne)]
  |const v=>rfl
  |func f=>rfl
  |global g=>rfl
theorem nJ {o:Oper} {d:Nat} {u:AV} (hg:o.guard=none) (hd:vD d o.dst=true) (hu:eN d (aJ o.op)=false):bN P tt dm all o (fr.set d u) M K=bN P tt dm all o fr M fun fr' M'=>K (fr'.set d u) M':=by
 unfold bN jw
 rw[hg]
 simp only[eU,eT]
 rw[ji hu]
 congr 1
 funext w M'
 congr 1
 cases hdst:o.dst with
 |none=>rfl
 |some e=>
  rw[hdst] at hd
  have hne:e≠d:=fun h=>by subst h;simp[vD] at hd
  simp only[cB]
  exact List.set_comm _ _ (Ne.symm hne)
theorem kJ {o:Oper} (hg:o.guard=none) (h:∀w M',K (cB fr o.dst w) M'=K' (cB fr o.dst w) M'):bN P tt dm all o fr M K=bN P tt dm all o fr M K':=by
 unfold bN jw
 rw[hg]
 simp only[eU,eT,h]
theorem mL {o:Oper} {d:Nat} {u:AV} (hg:o.guard=none) (hd:o.dst=some d) (hq:Iu o.op=true) (hu:qC tt o.op ((aJ o.op).map (db fr))= .val u):bN P tt dm all o fr M K=K (fr.set d u) M:=by
 have hs:∀us K',bc P tt dm o us M K'=fQ (qC tt o.op us) fun u=>K' u M:=fun us K'=>by
  unfold bc
  unfold Iu at hq
  split at hq
  all_goals first
   |(rename_i e;rw[e];cases dm with
     |none=>rfl
     |some r=>cases r<;>rfl)
   |exact absurd hq (by decide)
 unfold bN jw
 rw[hg]
 simp only[eU,eT,hs,hu,hd,cB,fQ,bW]
theorem vE {f:Nat->Prop}:∀{l:List Nat},lJ l f↔∀i∈l,f i
 |[]=>by simp[lJ]
 |i::l=>by rw[lJ,vE];simp
theorem cG {done:List Nat} {i:Nat}:i∈cC all done↔i∉done/\∃o,all[i]? =some o/\∀e∈o.after.toList,Region.binds .any e=true->e.on<all.length/\e.on∈done:=by
 unfold cC
 rw[List.mem_filter,List.mem_range]
 constructor
 ·rintro⟨h1,h2⟩
  rw[Bool.and_eq_true] at h2
  refine⟨fun h=>?_,?_⟩
  ·have:=h2.1;rw[fy.2 h] at this;cases this
  ·have h3:=h2.2
   cases ho:all[i]? with
   |none=>rw[ho] at h3;cases h3
   |some o=>
    rw[ho] at h3
    refine⟨o,rfl,fun e he hb=>?_⟩
    have:=List.all_eq_true.1 h3 e he
    rw[hb] at this
    simpa[fy] using this
 ·rintro⟨h1,o,ho,h2⟩
  have hlt:i<all.length:=by
   rcases Nat.lt_or_ge i all.length with h|h
   ·exact h
   ·rw[List.getElem?_eq_none h] at ho;cases ho
  refine⟨hlt,?_⟩
  rw[ho,Bool.and_eq_true]
  refine⟨?_,List.all_eq_true.2 fun e he=>?_⟩
  ·cases hh:done.any (Nat.beq i) with
   |true=>exact absurd (fy.1 hh) h1
   |false=>rfl
  ·cases hb:Region.binds .any e with
   |false=>rfl
   |true=>
    obtain⟨h3,h4⟩:=h2 e he hb
    have:done.any (Nat.beq e.on)=true:=fy.2 h4
    simp[h3,this]
theorem qg {d1 d2:List Nat} (h:∀i,i∈d1↔i∈d2):cC all d1=cC all d2:=by
 have e:∀i,d1.any (Nat.beq i)=d2.any (Nat.beq i):=fun i=>by
  rw[Bool.eq_iff_iff,fy,fy,h]
 unfold cC
 simp only[e]
theorem jL:∀(n:Nat) (d1 d2:List Nat) (_:∀i,i∈d1↔i∈d2),bd P tt dm all K n d1=bd P tt dm all K n d2
 |0,d1,d2,h=>by
  funext fr M
  rw[bd,bd,qg h]
 |n+1,d1,d2,h=>by
  funext fr M
  rw[bd,bd,qg h]
  cases cC all d2 with
  |nil=>rfl
  |cons i l=>
   have e:∀j,bd P tt dm all K n (j::d1)=bd P tt dm all K n (j::d2):=fun j=>jL n _ _ fun i=>by rw[List.mem_cons,List.mem_cons,h]
   simp only[e]
theorem d8 {n:Nat} {done:List Nat} (h:cC all done≠[]):bd P tt dm all K (n+1) done fr M↔∀j∈cC all done,v4 P tt dm all j fr M (bd P tt dm all K n (j::done)):=by
 rw[bd]
 cases hr:cC all done with
 |nil=>exact absurd hr h
 |cons i l=>exact vE
theorem cl {j:Nat} {o:Oper} (h:all[j]? =some o):v4 P tt dm all j fr M K=bN P tt dm all o fr M K:=by
 unfold v4;rw[h]
theorem Fn {q:Nat} {o:Oper} {d:Nat} (hok:zY all q=true) (ho:all[q]? =some o) (hd:o.dst=some d):∀(n:Nat) (done:List Nat) (fr:List AV) (M:aj) (u:AV),q∈cC all done->qC tt o.op ((aJ o.op).map (db fr))= .val u->
  (bd P tt dm all K (n+1) done fr M↔bd P tt dm all K n (q::done) (fr.set d u) M):=by
 unfold zY at hok
 rw[ho] at hok
 simp only[hd,Bool.and_eq_true,Option.isNone_iff_eq_none] at hok
 obtain⟨⟨hqt,hg⟩,hall⟩:=hok
 have hpair:∀j x,all[j]? =some x->j≠q->x.guard=none/\vD d x.dst=true/\(eN d (aJ x.op)=false\/fN x q=true)/\∀e,x.dst=some e->eN e (aJ o.op)=false\/fN o j=true:=fun j x hx hne=>by
  have hj:j<all.length:=by
   rcases Nat.lt_or_ge j all.length with h|h
   ·exact h
   ·rw[List.getElem?_eq_none h] at hx;cases hx
  have:=List.all_eq_true.1 hall j (List.mem_range.2 hj)
  rw[hx] at this
  have hb:Nat.beq j q=false:=by cases h:Nat.beq j q with|false=>rfl|true=>exact absurd (Nat.eq_of_beq_eq_true h) hne
  simp only[hb,Bool.false_or,Bool.and_eq_true,Option.isNone_iff_eq_none,Bool.or_eq_true,Bool.not_eq_true'] at this
  obtain⟨⟨⟨h1,h2⟩,h3⟩,h4⟩:=this
  refine⟨h1,h2,h3,fun e he=>?_⟩
  rw[he] at h4
  simpa using h4
 have edge:∀{x:Oper} {k:Nat} {done:List Nat},fN x k=true->(∀e∈x.after.toList,Region.binds .any e=true->e.on<all.length/\e.on∈done)->k∈done:=fun{x k done} he h=>by
  unfold fN at he
  obtain⟨e,hm,hb⟩:=List.any_eq_true.1 he
  rw[Bool.and_eq_true] at hb
  have:=(h e hm hb.1).2
  rwa [Nat.eq_of_beq_eq_true hb.2] at this
 intro n
 induction n with
 |zero=>
  intro done fr M u hq hu
  have hne:cC all done≠[]:=List.ne_nil_of_mem hq
  rw[d8 hne]
  constructor
  ·intro h
   have:=h q hq
   rw[cl ho,mL hg hd hqt hu] at this
   exact this
  ·intro h j hj
   by_cases e:j=q
   ·subst e
    rw[cl ho,mL hg hd hqt hu]
    exact h
   ·exfalso
    have hj2:j∈cC all (q::done):=by
     rw[cG] at hj⊢
     obtain⟨h1,x,hx,h2⟩:=hj
     exact⟨fun h=>by rcases List.mem_cons.1 h with h|h;exact e h;exact h1 h,x,hx,fun e he hb=>⟨(h2 e he hb).1,List.mem_cons_of_mem _ (h2 e he hb).2⟩⟩
    rw[bd] at h
    cases hr:cC all (q::done) with
    |nil=>rw[hr] at hj2;cases hj2
    |cons a l=>rw[hr] at h;exact h
 |succ m ih=>
  intro done fr M u hq hu
  have hne:cC all done≠[]:=List.ne_nil_of_mem hq
  rw[d8 hne]
  constructor
  ·intro h
   have:=h q hq
   rw[cl ho,mL hg hd hqt hu] at this
   exact this
  ·intro h j hj
   by_cases e:j=q
   ·subst e
    rw[cl ho,mL hg hd hqt hu]
    exact h
   ·have hj':=cG.1 hj
    have hq':=cG.1 hq
    obtain⟨h1,x,hx,h2⟩:=hj'
    obtain⟨g1,o',ho',g2⟩:=hq'
    rw[ho] at ho';cases ho'
    obtain⟨p1,p2,p3,p4⟩:=hpair j x hx e
    have hj2:j∈cC all (q::done):=cG.2 ⟨fun h=>by rcases List.mem_cons.1 h with h|h;exact e h;exact h1 h,x,hx,fun e he hb=>⟨(h2 e he hb).1,List.mem_cons_of_mem _ (h2 e he hb).2⟩⟩
    have hq2:q∈cC all (j::done):=cG.2 ⟨fun h=>by rcases List.mem_cons.1 h with h|h;exact e h.symm;exact g1 h,o,ho,fun e he hb=>⟨(g2 e he hb).1,List.mem_cons_of_mem _ (g2 e he hb).2⟩⟩
    have hux:eN d (aJ x.op)=false:=p3.resolve_right fun he=>g1 (edge he h2)
    have h3:=(d8 (List.ne_nil_of_mem hj2)).1 h j hj2
    rw[cl hx,nJ p1 p2 hux] at h3
    rw[cl hx]
    refine Eq.mp (kJ p1 fun w M'=>?_) h3
    rw[jL m (j::q::done) (q::j::done) fun i=>by simp only[List.mem_cons];exact⟨fun h=>by rcases h with h|h|h<;>simp[h],fun h=>by rcases h with h|h|h<;>simp[h]⟩]
    refine propext (ih (j::done) (cB fr x.dst w) M' u hq2 ?_).symm
    rw[<-hu]
    congr 1
    cases hxd:x.dst with
    |none=>rfl
    |some e2=>
     have:eN e2 (aJ o.op)=false:=(p4 e2 hxd).resolve_right fun he=>h1 (edge he g2)
     exact ji this
theorem qh {qs:List Nat} (hqs:qs.all (zY all)=true):∀(n:Nat) (done:List Nat),mJ P tt dm all qs K n done=bd P tt dm all K n done
 |0,done=>by
  funext fr M
  rw[mJ,bd]
  cases cC all done<;>rfl
 |n+1,done=>by
  funext fr M
  have e:∀j,mJ P tt dm all qs K n (j::done)=bd P tt dm all K n (j::done):=fun j=>qh hqs n _
  rw[mJ]
  simp only[e]
  cases hr:cC all done with
  |nil=>rw[bd,hr]
  |cons i l=>
   have hk:bd P tt dm all K (n+1) done fr M=lJ (i::l) fun j=>v4 P tt dm all j fr M (bd P tt dm all K n (j::done)):=by rw[bd,hr]
   simp only
   cases hf:tu qs (i::l) with
   |none=>exact hk.symm
   |some q=>
    simp only
    obtain⟨h1,h2⟩:=mK hf
    have hok:=List.all_eq_true.1 hqs q h1
    rw[<-hk]
    unfold I'
    cases ho:all[q]? with
    |none=>rfl
    |some o=>
     simp only[eU]
     cases hu:qC tt o.op ((aJ o.op).map (db fr)) with
     |val u=>
      simp only[bW,eT]
      have hok':=hok
      unfold zY at hok'
      rw[ho] at hok'
      cases hd:o.dst with
      |none=>simp only[hd] at hok';cases hok'
      |some d=>exact propext (Fn hok ho hd n done fr M u (by rw[hr];exact h2) hu).symm
     |_=>rfl
end
theorem kK {P:Program} {tt:TT} {ops:List Oper} {fr:List AV} {M:aj} {K:List AV->aj->Prop} (qs:List Nat) (hqs:qs.all (zY ops)=true) (h:mJ P tt (some .own) ops qs K ops.length [] fr M):fL P tt ops fr M K:=
 mn (by rw[qh hqs] at h;exact h)
theorem kL {P:Program} {tt:TT} {ops:List Oper} {fr:List AV} {M:aj} {K:List AV->aj->Prop} (qs:List Nat) (hqs:qs.all (zY ops)=true) (h:mJ P tt none ops qs K ops.length [] fr M):fL P tt ops fr M K:=
 II (by rw[qh hqs] at h;exact h)
end Go.Proofs.YtnjggjhkfncnlaaGreatDoor
