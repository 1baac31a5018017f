import Derived.Test.YtekmminpfhacpaaGreatDoorFtE
import Derived.Test.YtekmminpfhacpaaGreatDoorV1
set_option linter.unusedVariables false
set_option linter.unusedSimpArgs false
namespace Go.Proofs.YtekmminpfhacpaaGreatDoor
set_option maxRecDepth 100000
def fl (k:Int×Int):Value:=.agg #[.int .i64 k.1, .int .i64 k.2]
theorem jH:i8 Tryz.prog 157 fl:=by
 have ht:Tryz.prog.underlying 3=some (.int .i64):=Tryz.underlying3
 have hta:=Tryz.underlying157
 have hag:∀w,(isAgg 3).run Tryz.prog w= .ok false w:=fun w=>by simp[isAgg,run_underlying ht]
 have hsz:∀w,(Go.sizeOf 3).run Tryz.prog w= .ok 1 w:=fun w=>by
  obtain⟨i,hi⟩:∃i,tt.find 3=some i:=⟨_,rfl⟩
  have:=TOk.size ac hi w
  cases hi
  exact this
 refine i8.ask Tryz.underlying157 ?_ ?_ ?_ ?_ ?_
 ·rintro⟨a,b⟩ ⟨c,d⟩ h
  simpa[fl] using h
 ·rintro e ⟨a,b⟩ w
  have h4:∀n w,(Instr.checkKey e (n+2) 157 (fl (a,b))).run Tryz.prog w= .ok () w:=fun n w=>by
   simp[Instr.checkKey,run_underlying hta,run_underlying ht,fl,part,hag,hsz,Std.Legacy.Range.forIn_eq_forIn_range',List.range',List.forIn_cons,List.forIn_nil]
  exact h4 9998 w
 ·intro a b;rfl
 ·rintro⟨a,b⟩ ⟨c,d⟩ w
  refine⟨decide (a=c/\b=d),?_,by simp[fl]⟩
  have hI:∀n w (x y:Int),(Op.equalIn (n+1) 3 (.int .i64 x) (.int .i64 y)).run Tryz.prog w= .ok (x==y) w:=fun n w x y=>by
   rw[Op.equalIn]
   simp[run_underlying ht]
  have h4:∀n w,(Op.equalIn (n+2) 157 (fl (a,b)) (fl (c,d))).run Tryz.prog w= .ok (decide (a=c/\b=d)) w:=fun n w=>by
   rw[Op.equalIn]
   simp only[Sem.run_bind,run_underlying hta,Result.andThen_ok,fl]
   simp[part,hag,hsz,hI,Std.Legacy.Range.forIn_eq_forIn_range',List.range',List.forIn_cons,List.forIn_nil]
   by_cases h1:a=c<;>by_cases h2:b=d<;>simp[h1,h2]
  exact h4 9998 w
 ·rintro⟨a,b⟩
  have h4:∀n,Instr.sameBits (n+1) (fl (a,b)) (fl (a,b))=true:=fun n=>by simp[fl,Instr.sameBits]
  exact h4 9999
set_option maxHeartbeats 16000000
theorem am.idn {P:Program} {f:FuncId} {args:List AV} {L0 L:List (Nat×bP)} {u0:AV} (hb:(ia (mn L) L&&ib L (mn L)&&pQ (mn L) (L0.map (·.1)))=true) (hu:jn (mn L) 400 u0 u0)
  (h:am P f args (aj.ofL L0) (fun u M=>u=u0/\dc (mn L) 400 M L)):am P f args (aj.ofL L0) (fun u M=>u=u0/\M=aj.ofL L):=
 h.norm 400 fun u M' ⟨e,hM⟩=>⟨L,u0,hb,hM,by rw[e];exact hu,rfl,rfl⟩
abbrev En (p:an) (q:aE) (sch:List Int) (n lr nr:Nat):List AV:=[.pd (du p q), .sl 0 ao sch, .int .i64 n, .mp 210, .mp 211, .mp 212, .mp 213, .mp 214, .mp 215, .mp 216, .row lr nr 2]
noncomputable abbrev eQ (vars:List Vb) (k:Int):bP:=.map fl (Value.int .i64) (mz vars k vars.length)
noncomputable abbrev dG (p:an) (q:aE) (sch:List Int) (vars:List Vb) (rows:List eN):List (Nat×bP):=
 [(200, .box 156 (En p q sch vars.length 201 rows.length)),(201, .row 161 eZ d6 rows),(210,eQ vars 0),(211,eQ vars 1),(212,eQ vars 2),(213,eQ vars 3),(214,eQ vars 4),(215,eQ vars 5),(216,eQ vars 6)]
noncomputable abbrev dv (p:an) (q:aE) (sch:List Int) (vars:List Vb) (rows:List eN) (co:Co) (c:Int):List (Nat×bP):=
 [(200, .box 156 (En p q sch vars.length 201 rows.length)),(201, .row 161 eZ d6 rows),(210,eQ vars 0),(211,eQ vars 1),(212,eQ vars 2),(213,eQ vars 3),(214,eQ vars 4),(215,eQ vars 5),(216,eQ vars 6),
  (220, .box 161 [.row 221 vars.length 1, .int .i64 c]),(221, .row 3 0 ao (vars.map co))]
def l0:cR:=[(200, .old 200),(201, .old 201),(210, .old 210),(211, .old 211),(212, .old 212),(213, .old 213),(214, .old 214),(215, .old 215),(216, .old 216),(220, .old 220),(221, .old 221)]
def oV (X:Int) (co:Co):Prop:=∀v,-X<=co v/\co v<=X
theorem vw (p:an) (q:aE) (sch:List Int) (vars:List Vb) (rows:List eN) (co:Co) (c:Int) (hn:vars.Nodup) (hv:vars.length<=1000000) (kind:Nat) (hk:kind<7) (seg idx k:Int) (hb:oV 1152921504606846976 co) (hf:-1152921504606846976<=k/\k<=1152921504606846976):
  am Tryz.prog 195 [.ptr 200 0, .ptr 220 0, .int .i64 k, .int .i64 (kind:Int), .int .i64 seg, .int .i64 idx] (aj.ofL (dv p q sch vars rows co c))
   (fun u M=>u= .tup []/\M=aj.ofL (dv p q sch vars rows (da co ⟨kind,seg,idx⟩ k) c)):=by
 have hs:∀b,mz vars kind vars.length (seg,idx)=some b->∃m:Nat,b=m/\m<vars.length/\(vars.map co).set m ((vars.map co).getD m 0+k)=vars.map (da co ⟨kind,seg,idx⟩ k):=by
  intro b h
  obtain⟨m,rfl,hm,e⟩:=oK h
  refine⟨m,rfl,hm,?_⟩
  rw[rF co hm,wC co k hn hm,e]
 have hno:mz vars kind vars.length (seg,idx)=none->vars.map co=vars.map (da co ⟨kind,seg,idx⟩ k):=fun h=>(Ai co k (xT h)).symm
 have hg:∀m,m<vars.length->-1152921504606846976<=(vars.map co).getD m 0/\(vars.map co).getD m 0<=1152921504606846976:=fun m hm=>by rw[rF co hm];exact hb _
 have hl:(vars.map co).length=vars.length:=List.length_map ..
 refine am.idn rfl trivial ?_
 generalize hA:vars.map co=A at hs hno hg hl
 generalize hB:vars.map (da co ⟨kind,seg,idx⟩ k)=B at hs hno
 have eA:dv p q sch vars rows co c=[(200, .box 156 (En p q sch vars.length 201 rows.length)),(201, .row 161 eZ d6 rows),(210,eQ vars 0),(211,eQ vars 1),(212,eQ vars 2),(213,eQ vars 3),(214,eQ vars 4),(215,eQ vars 5),(216,eQ vars 6),
  (220, .box 161 [.row 221 vars.length 1, .int .i64 c]),(221, .row 3 0 ao A)]:=by unfold dv;rw[hA]
 have eB:dv p q sch vars rows (da co ⟨kind,seg,idx⟩ k) c=[(200, .box 156 (En p q sch vars.length 201 rows.length)),(201, .row 161 eZ d6 rows),(210,eQ vars 0),(211,eQ vars 1),(212,eQ vars 2),(213,eQ vars 3),(214,eQ vars 4),(215,eQ vars 5),(216,eQ vars 6),
  (220, .box 161 [.row 221 vars.length 1, .int .i64 c]),(221, .row 3 0 ao B)]:=by unfold dv;rw[hB]
 rw[eA,eB]
 clear eA eB hA hB hb
 obtain rfl|rfl|rfl|rfl|rfl|rfl|rfl:kind=0\/kind=1\/kind=2\/kind=3\/kind=4\/kind=5\/kind=6:=by omega
 all_goals
  refine am.intro ac ae [(200, .box 156 (En p q sch vars.length 201 rows.length)),(201, .row 161 eZ d6 rows),(210,eQ vars 0),(211,eQ vars 1),(212,eQ vars 2),(213,eQ vars 3),(214,eQ vars 4),(215,eQ vars 5),(216,eQ vars 6),
  (220, .box 161 [.row 221 vars.length 1, .int .i64 c]),(221, .row 3 0 ao A)] Tryz.func195 rfl (by decide) ?_
  (conv=>whnf)
  refine cz (by decide) ?_
  (conv=>whnf)
  refine D3 jH (seg,idx) rfl (fun b hb=>?_) (fun hb=>?_)<;>(conv=>whnf)
  ·obtain⟨m,rfl,hm,e⟩:=hs b hb
   have h1:=hg m hm
   have h2:-1152921504606846976<=A.getD (m:Int).toNat 0/\A.getD (m:Int).toNat 0<=1152921504606846976:=by rw[tN];exact h1
   subst e
   repeat' ((first|refine nI ?_|refine aI ?_|refine tI ?_|refine fI ?_|fail);conv=>whnf)
   refine ap (A.getD (m:Int).toNat 0+k) rfl ?_
   (conv=>whnf)
   exact⟨rfl,(aa)⟩
  ·have e:=hno hb
   subst e
   exact⟨rfl,(aa)⟩
theorem Dg (p:an) (q:aE) (sch:List Int) (vars:List Vb) (rows:List eN) (co:Co) (c:Int) (hn:vars.Nodup) (hv:vars.length<=1000000) (kind:Int) (hk:0<=kind/\kind<7) (seg idx k:Int) (hb:oV 1152921504606846976 co) (hf:-1152921504606846976<=k/\k<=1152921504606846976):
  am Tryz.prog 195 [.ptr 200 0, .ptr 220 0, .int .i64 k, .int .i64 kind, .int .i64 seg, .int .i64 idx] (aj.ofL (dv p q sch vars rows co c))
   (fun u M=>u= .tup []/\M=aj.ofL (dv p q sch vars rows (da co ⟨kind,seg,idx⟩ k) c)):=by
 obtain⟨n,rfl⟩:∃n:Nat,kind=n:=⟨kind.toNat,by omega⟩
 exact vw p q sch vars rows co c hn hv n (by omega) seg idx k hb hf
theorem nh {X:Int} {co:Co} (h:oV X co) (v0:Vb) {k Y:Int} (hk:-Y<=k/\k<=Y) (hY:0<=Y):oV (X+Y) (da co v0 k):=fun v=>by
 unfold da
 have:=h v
 split<;>omega
theorem aV {X Y:Int} {co:Co} (h:oV X co) (hX:X<=Y):oV Y co:=fun v=>by
 have:=h v
 omega
theorem ni {k a:Int} (hk:cB k) (ha:cB a):-10000<=k*a/\k*a<=10000:=Au hk ha
theorem x8 (p:an) (q:aE) (sch:List Int) (vars:List Vb) (rows:List eN) (co:Co) (c:Int) (hn:vars.Nodup) (hv:vars.length<=1000000) (k:Int) (l:kK) (hb:oV 1099511627776 co) (hc:-1099511627776<=c/\c<=1099511627776) (hk:cB k) (hl:eD l):
  am Tryz.prog 194 [.ptr 200 0, .ptr 220 0, .int .i64 k, .agg (bT l)] (aj.ofL (dv p q sch vars rows co c))
   (fun u M=>u= .tup []/\M=aj.ofL (dv p q sch vars rows (ce co k (iu l)) (c+k*l.c))):=by
 obtain⟨lc,ln,lt,lf⟩:=hl
 have b0:=ni hk lc
 have b1:=ni hk ln
 have b2:=ni hk lt
 have b3:=ni hk lf
 have e1:=nh hb ⟨0,0,0⟩ (k:=k*l.n) (Y:=10000) (by omega) (by omega)
 have e2:=nh e1 ⟨1,0,0⟩ (k:=k*l.t) (Y:=10000) (by omega) (by omega)
 have a1:=Dg p q sch vars rows co c hn hv 0 (by omega) 0 0 (k*l.n) (aV hb (by omega)) (by omega)
 have a2:=Dg p q sch vars rows _ c hn hv 1 (by omega) 0 0 (k*l.t) (aV e1 (by omega)) (by omega)
 have a3:=Dg p q sch vars rows _ c hn hv 2 (by omega) 0 0 (k*l.f) (aV e2 (by omega)) (by omega)
 rw[CZ] at a3
 generalize da co ⟨0,0,0⟩ (k*l.n)=d1 at*
 generalize da d1 ⟨1,0,0⟩ (k*l.t)=d2 at*
 refine am.idn rfl trivial ?_
 refine am.intro ac ae (dv p q sch vars rows co c) Tryz.func194 rfl (by decide) ?_
 simp only[gJ]
 rw[show Tryz.f194.ntmps=40 from rfl]
 simp only[ct]
 simp only[df]
 rw[bA]
 simp only[gv,aM,List.map_cons,List.map_nil,aY]
 conv=>whnf
 refine ak rfl ?_
 conv=>whnf
 repeat' ((first|refine nI ?_|refine aI ?_|refine tI ?_|refine fI ?_|fail);conv=>whnf)
 refine am.call l0 (dv p q sch vars rows co c) 400 rfl (aa) (aa) a1 ?_
 rintro u M' ⟨rfl,rfl⟩
 refine⟨l0,dv p q sch vars rows d1 c, .tup [],rfl,(aa),trivial,?_⟩
 conv=>whnf
 repeat' ((first|refine nI ?_|refine aI ?_|refine tI ?_|refine fI ?_|fail);conv=>whnf)
 refine am.call l0 (dv p q sch vars rows d1 c) 400 rfl (aa) (aa) a2 ?_
 rintro u M' ⟨rfl,rfl⟩
 refine⟨l0,dv p q sch vars rows d2 c, .tup [],rfl,(aa),trivial,?_⟩
 conv=>whnf
 repeat' ((first|refine nI ?_|refine aI ?_|refine tI ?_|refine fI ?_|fail);conv=>whnf)
 refine am.call l0 (dv p q sch vars rows d2 c) 400 rfl (aa) (aa) a3 ?_
 rintro u M' ⟨rfl,rfl⟩
 refine⟨l0,dv p q sch vars rows (ce co k (iu l)) c, .tup [],rfl,(aa),trivial,?_⟩
 conv=>whnf
 refine zo rfl ?_
 conv=>whnf
 repeat' ((first|refine nI ?_|refine aI ?_|refine tI ?_|refine fI ?_|fail);conv=>whnf)
 exact⟨rfl,(aa)⟩
theorem A0 (rs:List bC) (start fire state:Int) (co:Co) (k:Int):da co ⟨start,0,state⟩ k=ce co k (eE rs start fire state 0 0):=by
 funext v
 have h:¬i0 rs.length fire (0:Nat) 0 v:=by unfold i0;omega
 unfold da ce eE
 rw[if_neg h]
 by_cases e:v=⟨start,0,state⟩
 ·rw[if_pos e,if_pos e];omega
 ·rw[if_neg e,if_neg e];omega
theorem A7 (rs:List bC) (fire message:Int) (co:Co) (k:Int):ce co k (cK rs fire message 0 0)=co:=by
 funext v
 have h:¬(i0 rs.length fire (0:Nat) 0 v/\message∈(rs.getD v.idx.toNat aq).send):=by unfold i0;omega
 unfold ce cK
 rw[if_neg h];omega
theorem jI {X:Int} {co d:Co} {k:Int} (h:oV X co) (hk:cB k) (hd:∀v,-2<=d v/\d v<=2):oV (X+200) (ce co k d):=fun v=>by
 have a:=h v
 have b:-(100*2)<=k*d v/\k*d v<=100*2:=Au hk (hd v)
 unfold ce
 omega
theorem wM (p:an) (q:aE) (sch:List Int) (vars:List Vb) (rows:List eN) (co:Co) (c:Int) (hn:vars.Nodup) (hv:vars.length<=1000000) (k state:Int) (start fire seg:Nat) (hst:start<7) (hfi:fire<7) (hsg:seg<=10) (hr:p.rules.length<=1000) (hb:oV 1099511627776 co) (hk:cB k):
  am Tryz.prog 197 [.ptr 200 0, .ptr 220 0, .int .i64 k, .int .i64 (start:Int), .int .i64 (fire:Int), .int .i64 state, .int .i64 (seg:Int)] (aj.ofL (dv p q sch vars rows co c))
   (fun u M=>u= .tup []/\M=aj.ofL (dv p q sch vars rows (ce co k (eE p.rules start fire state (seg+1) 0)) c)):=by
 have hkb:-100<=k/\k<=100:=hk
 have a0:=vw p q sch vars rows co c hn hv start hst 0 state k (aV hb (by omega)) (by omega)
 rw[A0 p.rules start fire state] at a0
 have hFb:∀j i,oV 1099511627976 (ce co k (eE p.rules start fire state j i)):=fun j i=>jI hb hk fun v=>by have:=Ej p.rules start fire state j i v;omega
 have hFn:=fun j i=>Al p.rules start fire state j i co k
 have hFe:=fun j=>congrArg (ce co k) (CX p.rules start fire state j)
 obtain⟨F,hF⟩:∃F:Nat->Nat->Co,F=fun j i=>ce co k (eE p.rules start fire state j i):=⟨_,rfl⟩
 have e0:∀j i,ce co k (eE p.rules start fire state j i)=F j i:=fun j i=>by rw[hF]
 simp only[e0] at a0 hFb hFn hFe
 rw[e0]
 clear e0 hF
 refine am.idn rfl trivial ?_
 refine am.intro ac ae (dv p q sch vars rows co c) Tryz.func197 rfl (by decide) ?_
 conv=>whnf
 refine am.call l0 (dv p q sch vars rows co c) 400 rfl (aa) (aa) a0 ?_
 rintro u M' ⟨rfl,rfl⟩
 refine⟨l0,dv p q sch vars rows (F 0 0) c, .tup [],rfl,(aa),trivial,?_⟩
 conv=>whnf
 repeat' ((first|refine nI ?_|refine aI ?_|refine tI ?_|refine fI ?_|fail);conv=>whnf)
 refine aF.loopF ac ae (fun j:Nat=>j<=seg+1) (fun j=>[(25, .int .i64 (j:Int))]) (fun j=>dv p q sch vars rows (F j 0) c) (fun j=>seg+1-j) 0 (Nat.zero_le _) ?_;conv=>whnf
 refine⟨aR.by_ l0 _ 400 rfl (aa) (aa),?_⟩
 rintro j hj
 conv=>whnf
 refine ag ?_ ?_<;>(intro h1;conv=>whnf)
 ·repeat' ((first|refine nI ?_|refine aI ?_|refine tI ?_|refine fI ?_|fail);conv=>whnf)
  refine aF.loopF ac ae (fun i:Nat=>i<=p.rules.length) (fun i=>[(37, .int .i64 (i:Int))]) (fun i=>dv p q sch vars rows (F j i) c) (fun i=>p.rules.length-i) 0 (Nat.zero_le _) ?_;conv=>whnf
  refine⟨aR.by_ l0 _ 400 rfl (aa) (aa),?_⟩
  rintro i hi
  conv=>whnf
  refine ag ?_ ?_<;>(intro h2;conv=>whnf)
  ·have hlt:i<p.rules.length:=by omega
   have hs:=hFn j i
   unfold Ak at hs
   dsimp only at hs
   repeat' ((first|refine nI ?_|refine aI ?_|refine tI ?_|refine fI ?_|fail);conv=>whnf)
   refine ag ?_ ?_<;>(intro h3;conv=>whnf)
   ·rw[tN] at h3;rw[if_pos h3] at hs
    have a1:=vw p q sch vars rows (F j i) c hn hv fire hfi j i k (aV (hFb j i) (by omega)) (by omega)
    have hG:=nh (hFb j i) ⟨fire,j,i⟩ (k:=k) (Y:=100) hkb (by omega)
    generalize da (F j i) ⟨fire,j,i⟩ k=G at a1 hs hG
    repeat' ((first|refine nI ?_|refine aI ?_|refine tI ?_|refine fI ?_|fail);conv=>whnf)
    refine am.call l0 (dv p q sch vars rows (F j i) c) 400 rfl (aa) (aa) a1 ?_
    rintro u M' ⟨rfl,rfl⟩
    refine⟨l0,dv p q sch vars rows G c, .tup [],rfl,(aa),trivial,?_⟩
    conv=>whnf
    repeat' ((first|refine nI ?_|refine aI ?_|refine tI ?_|refine fI ?_|fail);conv=>whnf)
    refine ag ?_ ?_<;>(intro h4;conv=>whnf)
    ·rw[tN] at h4;rw[if_pos h4] at hs
     have a2:=vw p q sch vars rows G c hn hv fire hfi j i (-k) (aV hG (by omega)) (by omega)
     rw[<-hs] at a2
     repeat' ((first|refine nI ?_|refine aI ?_|refine tI ?_|refine fI ?_|fail);conv=>whnf)
     refine am.call l0 (dv p q sch vars rows G c) 400 rfl (aa) (aa) a2 ?_
     rintro u M' ⟨rfl,rfl⟩
     refine⟨l0,dv p q sch vars rows (F j (i+1)) c, .tup [],rfl,(aa),trivial,?_⟩
     conv=>whnf
     repeat' ((first|refine nI ?_|refine aI ?_|refine tI ?_|refine fI ?_|fail);conv=>whnf)
     refine⟨i+1,?_,by omega,by dsimp only;omega⟩
     exact aR.by_ l0 _ 400 rfl (aa) (aa)
    ·rw[tN] at h4;rw[if_neg h4] at hs
     repeat' ((first|refine nI ?_|refine aI ?_|refine tI ?_|refine fI ?_|fail);conv=>whnf)
     refine⟨i+1,?_,by omega,by dsimp only;omega⟩
     dsimp only
     rw[hs]
     exact aR.by_ l0 _ 400 rfl (aa) (aa)
   ·rw[tN] at h3;rw[if_neg h3] at hs
    repeat' ((first|refine nI ?_|refine aI ?_|refine tI ?_|refine fI ?_|fail);conv=>whnf)
    refine ag ?_ ?_<;>(intro h4;conv=>whnf)
    ·rw[tN] at h4;rw[if_pos h4] at hs
     have a2:=vw p q sch vars rows (F j i) c hn hv fire hfi j i (-k) (aV (hFb j i) (by omega)) (by omega)
     rw[<-hs] at a2
     repeat' ((first|refine nI ?_|refine aI ?_|refine tI ?_|refine fI ?_|fail);conv=>whnf)
     refine am.call l0 (dv p q sch vars rows (F j i) c) 400 rfl (aa) (aa) a2 ?_
     rintro u M' ⟨rfl,rfl⟩
     refine⟨l0,dv p q sch vars rows (F j (i+1)) c, .tup [],rfl,(aa),trivial,?_⟩
     conv=>whnf
     repeat' ((first|refine nI ?_|refine aI ?_|refine tI ?_|refine fI ?_|fail);conv=>whnf)
     refine⟨i+1,?_,by omega,by dsimp only;omega⟩
     exact aR.by_ l0 _ 400 rfl (aa) (aa)
    ·rw[tN] at h4;rw[if_neg h4] at hs
     repeat' ((first|refine nI ?_|refine aI ?_|refine tI ?_|refine fI ?_|fail);conv=>whnf)
     refine⟨i+1,?_,by omega,by dsimp only;omega⟩
     dsimp only
     rw[hs]
     exact aR.by_ l0 _ 400 rfl (aa) (aa)
  ·repeat' ((first|refine nI ?_|refine aI ?_|refine tI ?_|refine fI ?_|fail);conv=>whnf)
   refine⟨j+1,?_,by omega,by dsimp only;omega⟩
   obtain rfl:i=p.rules.length:=by omega
   dsimp only
   rw[<-hFe j]
   exact aR.by_ l0 _ 400 rfl (aa) (aa)
 ·obtain rfl:j=seg+1:=by omega
  exact⟨rfl,(aa)⟩
theorem wN (p:an) (q:aE) (sch:List Int) (vars:List Vb) (rows:List eN) (co:Co) (c:Int) (hn:vars.Nodup) (hv:vars.length<=1000000) (k message:Int) (fire seg:Nat) (hfi:fire<7) (hsg:seg<=10) (hr:p.rules.length<=1000) (hsd:∀i,i<p.rules.length->(p.rules.getD i aq).send.length<=1000000) (hb:oV 1099511627776 co) (hk:cB k):
  am Tryz.prog 196 [.ptr 200 0, .ptr 220 0, .int .i64 k, .int .i64 (fire:Int), .int .i64 message, .int .i64 (seg:Int)] (aj.ofL (dv p q sch vars rows co c))
   (fun u M=>u= .tup []/\M=aj.ofL (dv p q sch vars rows (ce co k (cK p.rules fire message seg 0)) c)):=by
 have hkb:-100<=k/\k<=100:=hk
 have hF0:=A7 p.rules fire message co k
 have hFb:∀j i,oV 1099511627976 (ce co k (cK p.rules fire message j i)):=fun j i=>jI hb hk fun v=>by have:=tF p.rules fire message j i v;omega
 have hFn:=fun j i=>Aj p.rules fire message j i co k
 have hFe:=fun j=>congrArg (ce co k) (CY p.rules fire message j)
 obtain⟨F,hF⟩:∃F:Nat->Nat->Co,F=fun j i=>ce co k (cK p.rules fire message j i):=⟨_,rfl⟩
 have e0:∀j i,ce co k (cK p.rules fire message j i)=F j i:=fun j i=>by rw[hF]
 simp only[e0] at hF0 hFb hFn hFe
 rw[e0]
 clear e0 hF
 subst hF0
 refine am.idn rfl trivial ?_
 refine am.intro ac ae (dv p q sch vars rows (F 0 0) c) Tryz.func196 rfl (by decide) ?_
 conv=>whnf
 refine aF.loopF ac ae (fun j:Nat=>j<=seg) (fun j=>[(16, .int .i64 (j:Int))]) (fun j=>dv p q sch vars rows (F j 0) c) (fun j=>seg-j) 0 (Nat.zero_le _) ?_;conv=>whnf
 refine⟨aR.by_ l0 _ 400 rfl (aa) (aa),?_⟩
 rintro j hj
 conv=>whnf
 refine ag ?_ ?_<;>(intro h1;conv=>whnf)
 ·repeat' ((first|refine nI ?_|refine aI ?_|refine tI ?_|refine fI ?_|fail);conv=>whnf)
  refine aF.loopF ac ae (fun i:Nat=>i<=p.rules.length) (fun i=>[(28, .int .i64 (i:Int))]) (fun i=>dv p q sch vars rows (F j i) c) (fun i=>p.rules.length-i) 0 (Nat.zero_le _) ?_;conv=>whnf
  refine⟨aR.by_ l0 _ 400 rfl (aa) (aa),?_⟩
  rintro i hi
  conv=>whnf
  refine ag ?_ ?_<;>(intro h2;conv=>whnf)
  ·have hlt:i<p.rules.length:=by omega
   have hs:=hFn j i
   repeat' ((first|refine nI ?_|refine aI ?_|refine tI ?_|refine fI ?_|fail);conv=>whnf)
   refine dC (bo (p.rules.getD i aq).send message (Nat.le_trans (hsd i hlt) (by omega))) (fun _=>?_) (fun _=>?_)<;>(conv=>whnf)
   ·rename_i h3
    rw[if_pos h3] at hs
    have a1:=vw p q sch vars rows (F j i) c hn hv fire hfi j i k (aV (hFb j i) (by omega)) (by omega)
    rw[<-hs] at a1
    repeat' ((first|refine nI ?_|refine aI ?_|refine tI ?_|refine fI ?_|fail);conv=>whnf)
    refine am.call l0 (dv p q sch vars rows (F j i) c) 400 rfl (aa) (aa) a1 ?_
    rintro u M' ⟨rfl,rfl⟩
    refine⟨l0,dv p q sch vars rows (F j (i+1)) c, .tup [],rfl,(aa),trivial,?_⟩
    conv=>whnf
    repeat' ((first|refine nI ?_|refine aI ?_|refine tI ?_|refine fI ?_|fail);conv=>whnf)
    refine⟨i+1,?_,by omega,by dsimp only;omega⟩
    exact aR.by_ l0 _ 400 rfl (aa) (aa)
   ·rename_i h3
    rw[if_neg h3] at hs
    repeat' ((first|refine nI ?_|refine aI ?_|refine tI ?_|refine fI ?_|fail);conv=>whnf)
    refine⟨i+1,?_,by omega,by dsimp only;omega⟩
    dsimp only
    rw[hs]
    exact aR.by_ l0 _ 400 rfl (aa) (aa)
  ·repeat' ((first|refine nI ?_|refine aI ?_|refine tI ?_|refine fI ?_|fail);conv=>whnf)
   refine⟨j+1,?_,by omega,by dsimp only;omega⟩
   obtain rfl:i=p.rules.length:=by omega
   dsimp only
   rw[<-hFe j]
   exact aR.by_ l0 _ 400 rfl (aa) (aa)
 ·obtain rfl:j=seg:=by omega
  exact⟨rfl,(aa)⟩
def eU:cR:=[(200, .old 200),(201, .old 201),(210, .old 210),(211, .old 211),(212, .old 212),(213, .old 213),(214, .old 214),(215, .old 215),(216, .old 216)]
noncomputable abbrev lG (p:an) (q:aE) (sch:List Int) (vars:List Vb) (rows:List eN):List (Nat×bP):=
 [(200, .box 156 (En p q sch vars.length 202 rows.length)),(201, .dead),(202, .row 161 eZ d6 rows),(210,eQ vars 0),(211,eQ vars 1),(212,eQ vars 2),(213,eQ vars 3),(214,eQ vars 4),(215,eQ vars 5),(216,eQ vars 6)]
theorem A8 (vars:List Vb):List.replicate vars.length (0:Int)=vars.map zC:=by
 apply List.ext_getElem
 ·simp
 ·intro i h1 h2;simp[zC]
theorem vy (p:an) (q:aE) (sch:List Int) (vars:List Vb) (rows:List eN) (hv:vars.length<=1000000):
  am Tryz.prog 193 [.ptr 200 0] (aj.ofL (dG p q sch vars rows))
   (fun u M=>u= .agg [.row 221 vars.length 1, .int .i64 0]/\M=aj.ofL (dG p q sch vars rows++[(221, .row 3 0 ao (vars.map zC))])):=by
 rw[<-A8]
 refine am.renorm 400 (R:=fun u M=>u= .agg [.row 7 vars.length 1, .int .i64 0]/\dc (eU++[(221, .old 7)]) 400 M (dG p q sch vars rows++[(221, .row 3 0 ao (List.replicate vars.length (0:Int)))])) ?_ ?_
 case refine_2=>
  rintro u M ⟨rfl,hM⟩
  exact⟨eU++[(221, .old 7)],_,_,rfl,hM,(aa),rfl,rfl⟩
 refine am.intro ac ae (dG p q sch vars rows) Tryz.func193 rfl (by decide) ?_
 conv=>whnf
 refine DY 0 ao 0 rfl (by dsimp only;omega) ?_
 conv=>whnf
 exact⟨rfl,(aa)⟩
theorem HY (p:an) (q:aE) (sch:List Int) (vars:List Vb) (rows:List eN) (hn:vars.Nodup) (hv:vars.length<=1000000) (hr:rows.length<=1000000) (l:kK) (hl:eD l):
  am Tryz.prog 106 [.ptr 200 0, .agg (bT l)] (aj.ofL (dG p q sch vars rows))
   (fun u M=>u= .tup []/\M=aj.ofL (lG p q sch vars (rows++[cL vars (vg l)]))):=by
 have hz:oV 1099511627776 zC:=fun v=>by unfold zC;omega
 have a1:=x8 p q sch vars rows zC 0 hn hv 1 l hz (by omega) (by unfold cB;omega) hl
 have e1:ce zC 1 (iu l)=iu l:=by funext v;unfold ce zC;omega
 have e2:0+1*l.c=l.c:=by omega
 rw[e1,e2] at a1
 refine am.renorm 400 (R:=fun u M=>u= .tup []/\dc ((202, .old 17)::eU) 400 M (lG p q sch vars (rows++[cL vars (vg l)]))) ?_ ?_
 case refine_2=>
  rintro u M ⟨rfl,hM⟩
  exact⟨(202, .old 17)::eU,_, .tup [],rfl,hM,trivial,rfl,rfl⟩
 refine am.intro ac ae (dG p q sch vars rows) Tryz.func106 rfl (by decide) ?_
 simp only[gJ]
 rw[show Tryz.f106.ntmps=20 from rfl]
 simp only[ct]
 simp only[df]
 rw[bA]
 simp only[gv,aM,List.map_cons,List.map_nil,aY]
 conv=>whnf
 refine ak rfl ?_
 conv=>whnf
 refine am.call eU (dG p q sch vars rows) 400 rfl (aa) (aa) (vy p q sch vars rows hv) ?_
 rintro u M' ⟨rfl,rfl⟩
 refine⟨eU++[(221, .old 221)],dG p q sch vars rows++[(221, .row 3 0 ao (vars.map zC))], .agg [.row 221 vars.length 1, .int .i64 0],rfl,(aa),(aa),?_⟩
 conv=>whnf
 refine am.call (eU++[(220, .old 4),(221, .old 221)]) (dv p q sch vars rows zC 0) 400 rfl (aa) (aa) a1 ?_
 rintro u M' ⟨rfl,rfl⟩
 refine⟨eU++[(4, .old 220),(221, .old 221)],dG p q sch vars rows++[(4, .box 161 [.row 221 vars.length 1, .int .i64 l.c]),(221, .row 3 0 ao (vars.map (iu l)))], .tup [],rfl,(aa),trivial,?_⟩
 conv=>whnf
 refine s4 ?_
 conv=>whnf
 repeat' first
  |exact True.intro
  |(refine And.intro ?_ ?_<;>conv=>whnf)
  |(refine bD eZ d6 [cL vars (vg l)] rfl ?_;conv=>whnf)
  |(refine fu ?_;conv=>whnf)
  |(refine bQ [cL vars (vg l)] rfl lI ?_;conv=>whnf)
  |exact rfl
  |exact(List.length_append ..).symm
  |fail
def Gk:Op->Bool
 |.move _| .fieldAddr _ _ _| .nilCheck _| .indexAddr _ _ _| .build _ _| .field _ _ _=>true
 |_=>false
def gr (d:Nat) (xs:List Operand):Bool:=xs.any fun x=>match x with
 |.tmp t=>Nat.beq t d
 |_=>false
def ja (x:Oper) (q:Nat):Bool:=x.after.toList.any fun e=>Region.binds .any e&&Nat.beq e.on q
def x9 (d:Nat):Option Tmp->Bool
 |some e=>!(Nat.beq e d)
 |none=>true
def ya (all:List Oper) (q:Nat):Bool:=match all[q]? with
 |none=>false
 |some o=>match o.dst with
  |none=>false
  |some d=>Gk o.op&&o.guard.isNone&&(List.range all.length).all fun j=>Nat.beq j q||match all[j]? with
   |none=>true
   |some x=>x.guard.isNone&&x9 d x.dst&&(!(gr d (aM x.op))||ja x q)&&(match x.dst with|none=>true|some e=>!(gr e (aM o.op))||ja o j)
def vz:List Nat->List Nat->Option Nat
 |[],_=>none
 |q::qs,l=>match l.any (Nat.beq q) with
  |true=>some q
  |false=>vz qs l
def G9 (tt:TT) (all:List Oper) (q:Nat) (fr:List AV) (k1:List AV->Prop) (k2:Prop):Prop:=match all[q]? with
 |none=>k2
 |some o=>xl fr (aM o.op) fun us=>match pm tt o.op us with
  |.val u=>ge u fun u=>jo fr o.dst u k1
  |_=>k2
def lH (P:Program) (tt:TT) (d:Option aD) (all:List Oper) (qs:List Nat) (K:List AV->aj->Prop):Nat->List Nat->List AV->aj->Prop
 |0,done,fr,M=>match cU all done with
  |[]=>K fr M
  |_::_=>False
 |n+1,done,fr,M=>match cU all done with
  |[]=>K fr M
  |i::l=>match vz qs (i::l) with
   |none=>mT (i::l) fun j=>zn P tt d all j fr M (lH P tt d all qs K n (j::done))
   |some q=>G9 tt all q fr (fun fr'=>lH P tt d all qs K n (q::done) fr' M) (mT (i::l) fun j=>zn P tt d all j fr M (lH P tt d all qs K n (j::done)))
section
variable {P:Program} {tt:TT} {dm:Option aD} {all:List Oper} {K K':List AV->aj->Prop} {fr:List AV} {M:aj}
theorem oW:∀{qs l:List Nat} {q:Nat},vz qs l=some q->q∈qs/\q∈l
 |[],_,_,h=>by cases h
 |a::qs,l,q,h=>by
  rw[vz] at h
  split at h
  ·rename_i ha
   cases h
   exact⟨List.mem_cons_self,ew.1 ha⟩
  ·obtain⟨h1,h2⟩:=oW h
   exact⟨List.mem_cons_of_mem _ h1,h2⟩
theorem j0 {d:Nat} {u:AV}:∀{xs:List Operand},gr d xs=false->xs.map (c6 (fr.set d u))=xs.map (c6 fr)
 |[],_=>rfl
 |x::xs,h=>by
  unfold gr at h
  rw[List.any_cons,Bool.or_eq_false_iff] at h
  rw[List.map_cons,List.map_cons,j0 (xs:=xs) h.2]
  congr 1
  cases x with
  |tmp t=>
   have hne:t≠d:=fun e=>by subst e;simp at h
   simp only[c6,gD,List.getElem?_set_ne (Ne.symm hne)]
  |const v=>rfl
  |func f=>rfl
  |global g=>rfl
theorem qA {o:Oper} {d:Nat} {u:AV} (hg:o.guard=none) (hd:x9 d o.dst=true) (hu:gr d (aM o.op)=false):bz P tt dm all o (fr.set d u) M K=bz P tt dm all o fr M fun fr' M'=>K (fr'.set d u) M':=by
 unfold bz jp
 rw[hg]
 simp only[fh,dA]
 rw[j0 hu]
 congr 1
 funext w M'
 congr 1
 cases hdst:o.dst with
 |none=>rfl
 |some e=>
  rw[hdst] at hd
  have hne:e≠d:=fun h=>by subst h;simp[x9] at hd
  simp only[bZ]
  exact List.set_comm _ _ (Ne.symm hne)
theorem mQ {o:Oper} (hg:o.guard=none) (h:∀w M',K (bZ fr o.dst w) M'=K' (bZ fr o.dst w) M'):bz P tt dm all o fr M K=bz P tt dm all o fr M K':=by
 unfold bz jp
 rw[hg]
 simp only[fh,dA,h]
theorem lJ {o:Oper} {d:Nat} {u:AV} (hg:o.guard=none) (hd:o.dst=some d) (hq:Gk o.op=true) (hu:pm tt o.op ((aM o.op).map (c6 fr))= .val u):bz P tt dm all o fr M K=K (fr.set d u) M:=by
 have hs:∀us K',aY P tt dm o us M K'=fY (pm tt o.op us) fun u=>K' u M:=fun us K'=>by
  unfold aY
  unfold Gk at hq
  split at hq
  all_goals first
   |(rename_i e;rw[e];cases dm with
     |none=>rfl
     |some r=>cases r<;>rfl)
   |exact absurd hq (by decide)
 unfold bz jp
 rw[hg]
 simp only[fh,dA,hs,hu,hd,bZ,fY,bH]
theorem tY {f:Nat->Prop}:∀{l:List Nat},mT l f↔∀i∈l,f i
 |[]=>by simp[mT]
 |i::l=>by rw[mT,tY];simp
theorem dy {done:List Nat} {i:Nat}:i∈cU all done↔i∉done/\∃o,all[i]? =some o/\∀e∈o.after.toList,Region.binds .any e=true->e.on<all.length/\e.on∈done:=by
 unfold cU
 rw[List.mem_filter,List.mem_range]
 constructor
 ·rintro⟨h1,h2⟩
  rw[Bool.and_eq_true] at h2
  refine⟨fun h=>?_,?_⟩
  ·have:=h2.1;rw[ew.2 h] at this;cases this
  ·have h3:=h2.2
   cases ho:all[i]? with
   |none=>rw[ho] at h3;cases h3
   |some o=>
    rw[ho] at h3
    refine⟨o,rfl,fun e he hb=>?_⟩
    have:=List.all_eq_true.1 h3 e he
    rw[hb] at this
    simpa[ew] using this
 ·rintro⟨h1,o,ho,h2⟩
  have hlt:i<all.length:=by
   rcases Nat.lt_or_ge i all.length with h|h
   ·exact h
   ·rw[List.getElem?_eq_none h] at ho;cases ho
  refine⟨hlt,?_⟩
  rw[ho,Bool.and_eq_true]
  refine⟨?_,List.all_eq_true.2 fun e he=>?_⟩
  ·cases hh:done.any (Nat.beq i) with
   |true=>exact absurd (ew.1 hh) h1
   |false=>rfl
  ·cases hb:Region.binds .any e with
   |false=>rfl
   |true=>
    obtain⟨h3,h4⟩:=h2 e he hb
    have:done.any (Nat.beq e.on)=true:=ew.2 h4
    simp[h3,this]
theorem oX {d1 d2:List Nat} (h:∀i,i∈d1↔i∈d2):cU all d1=cU all d2:=by
 have e:∀i,d1.any (Nat.beq i)=d2.any (Nat.beq i):=fun i=>by
  rw[Bool.eq_iff_iff,ew,ew,h]
 unfold cU
 simp only[e]
theorem kE:∀(n:Nat) (d1 d2:List Nat) (_:∀i,i∈d1↔i∈d2),bq P tt dm all K n d1=bq P tt dm all K n d2
 |0,d1,d2,h=>by
  funext fr M
  rw[bq,bq,oX h]
 |n+1,d1,d2,h=>by
  funext fr M
  rw[bq,bq,oX h]
  cases cU all d2 with
  |nil=>rfl
  |cons i l=>
   have e:∀j,bq P tt dm all K n (j::d1)=bq P tt dm all K n (j::d2):=fun j=>kE n _ _ fun i=>by rw[List.mem_cons,List.mem_cons,h]
   simp only[e]
theorem f8 {n:Nat} {done:List Nat} (h:cU all done≠[]):bq P tt dm all K (n+1) done fr M↔∀j∈cU all done,zn P tt dm all j fr M (bq P tt dm all K n (j::done)):=by
 rw[bq]
 cases hr:cU all done with
 |nil=>exact absurd hr h
 |cons i l=>exact tY
theorem cM {j:Nat} {o:Oper} (h:all[j]? =some o):zn P tt dm all j fr M K=bz P tt dm all o fr M K:=by
 unfold zn;rw[h]
theorem Dh {q:Nat} {o:Oper} {d:Nat} (hok:ya all q=true) (ho:all[q]? =some o) (hd:o.dst=some d):∀(n:Nat) (done:List Nat) (fr:List AV) (M:aj) (u:AV),q∈cU all done->pm tt o.op ((aM o.op).map (c6 fr))= .val u->
  (bq P tt dm all K (n+1) done fr M↔bq P tt dm all K n (q::done) (fr.set d u) M):=by
 unfold ya at hok
 rw[ho] at hok
 simp only[hd,Bool.and_eq_true,Option.isNone_iff_eq_none] at hok
 obtain⟨⟨hqt,hg⟩,hall⟩:=hok
 have hpair:∀j x,all[j]? =some x->j≠q->x.guard=none/\x9 d x.dst=true/\(gr d (aM x.op)=false\/ja x q=true)/\∀e,x.dst=some e->gr e (aM o.op)=false\/ja o j=true:=fun j x hx hne=>by
  have hj:j<all.length:=by
   rcases Nat.lt_or_ge j all.length with h|h
   ·exact h
   ·rw[List.getElem?_eq_none h] at hx;cases hx
  have:=List.all_eq_true.1 hall j (List.mem_range.2 hj)
  rw[hx] at this
  have hb:Nat.beq j q=false:=by cases h:Nat.beq j q with|false=>rfl|true=>exact absurd (Nat.eq_of_beq_eq_true h) hne
  simp only[hb,Bool.false_or,Bool.and_eq_true,Option.isNone_iff_eq_none,Bool.or_eq_true,Bool.not_eq_true'] at this
  obtain⟨⟨⟨h1,h2⟩,h3⟩,h4⟩:=this
  refine⟨h1,h2,h3,fun e he=>?_⟩
  rw[he] at h4
  simpa using h4
 have edge:∀{x:Oper} {k:Nat} {done:List Nat},ja x k=true->(∀e∈x.after.toList,Region.binds .any e=true->e.on<all.length/\e.on∈done)->k∈done:=fun{x k done} he h=>by
  unfold ja at he
  obtain⟨e,hm,hb⟩:=List.any_eq_true.1 he
  rw[Bool.and_eq_true] at hb
  have:=(h e hm hb.1).2
  rwa [Nat.eq_of_beq_eq_true hb.2] at this
 intro n
 induction n with
 |zero=>
  intro done fr M u hq hu
  have hne:cU all done≠[]:=List.ne_nil_of_mem hq
  rw[f8 hne]
  constructor
  ·intro h
   have:=h q hq
   rw[cM ho,lJ hg hd hqt hu] at this
   exact this
  ·intro h j hj
   by_cases e:j=q
   ·subst e
    rw[cM ho,lJ hg hd hqt hu]
    exact h
   ·exfalso
    have hj2:j∈cU all (q::done):=by
     rw[dy] at hj⊢
     obtain⟨h1,x,hx,h2⟩:=hj
     exact⟨fun h=>by rcases List.mem_cons.1 h with h|h;exact e h;exact h1 h,x,hx,fun e he hb=>⟨(h2 e he hb).1,List.mem_cons_of_mem _ (h2 e he hb).2⟩⟩
    rw[bq] at h
    cases hr:cU all (q::done) with
    |nil=>rw[hr] at hj2;cases hj2
    |cons a l=>rw[hr] at h;exact h
 |succ m ih=>
  intro done fr M u hq hu
  have hne:cU all done≠[]:=List.ne_nil_of_mem hq
  rw[f8 hne]
  constructor
  ·intro h
   have:=h q hq
   rw[cM ho,lJ hg hd hqt hu] at this
   exact this
  ·intro h j hj
   by_cases e:j=q
   ·subst e
    rw[cM ho,lJ hg hd hqt hu]
    exact h
   ·have hj':=dy.1 hj
    have hq':=dy.1 hq
    obtain⟨h1,x,hx,h2⟩:=hj'
    obtain⟨g1,o',ho',g2⟩:=hq'
    rw[ho] at ho';cases ho'
    obtain⟨p1,p2,p3,p4⟩:=hpair j x hx e
    have hj2:j∈cU all (q::done):=dy.2 ⟨fun h=>by rcases List.mem_cons.1 h with h|h;exact e h;exact h1 h,x,hx,fun e he hb=>⟨(h2 e he hb).1,List.mem_cons_of_mem _ (h2 e he hb).2⟩⟩
    have hq2:q∈cU all (j::done):=dy.2 ⟨fun h=>by rcases List.mem_cons.1 h with h|h;exact e h.symm;exact g1 h,o,ho,fun e he hb=>⟨(g2 e he hb).1,List.mem_cons_of_mem _ (g2 e he hb).2⟩⟩
    have hux:gr d (aM x.op)=false:=p3.resolve_right fun he=>g1 (edge he h2)
    have h3:=(f8 (List.ne_nil_of_mem hj2)).1 h j hj2
    rw[cM hx,qA p1 p2 hux] at h3
    rw[cM hx]
    refine Eq.mp (mQ p1 fun w M'=>?_) h3
    rw[kE m (j::q::done) (q::j::done) fun i=>by simp only[List.mem_cons];exact⟨fun h=>by rcases h with h|h|h<;>simp[h],fun h=>by rcases h with h|h|h<;>simp[h]⟩]
    refine propext (ih (j::done) (bZ fr x.dst w) M' u hq2 ?_).symm
    rw[<-hu]
    congr 1
    cases hxd:x.dst with
    |none=>rfl
    |some e2=>
     have:gr e2 (aM o.op)=false:=(p4 e2 hxd).resolve_right fun he=>h1 (edge he g2)
     exact j0 this
theorem oY {qs:List Nat} (hqs:qs.all (ya all)=true):∀(n:Nat) (done:List Nat),lH P tt dm all qs K n done=bq P tt dm all K n done
 |0,done=>by
  funext fr M
  rw[lH,bq]
  cases cU all done<;>rfl
 |n+1,done=>by
  funext fr M
  have e:∀j,lH P tt dm all qs K n (j::done)=bq P tt dm all K n (j::done):=fun j=>oY hqs n _
  rw[lH]
  simp only[e]
  cases hr:cU all done with
  |nil=>rw[bq,hr]
  |cons i l=>
   have hk:bq P tt dm all K (n+1) done fr M=mT (i::l) fun j=>zn P tt dm all j fr M (bq P tt dm all K n (j::done)):=by rw[bq,hr]
   simp only
   cases hf:vz qs (i::l) with
   |none=>exact hk.symm
   |some q=>
    simp only
    obtain⟨h1,h2⟩:=oW hf
    have hok:=List.all_eq_true.1 hqs q h1
    rw[<-hk]
    unfold G9
    cases ho:all[q]? with
    |none=>rfl
    |some o=>
     simp only[fh]
     cases hu:pm tt o.op ((aM o.op).map (c6 fr)) with
     |val u=>
      simp only[bH,dA]
      have hok':=hok
      unfold ya at hok'
      rw[ho] at hok'
      cases hd:o.dst with
      |none=>simp only[hd] at hok';cases hok'
      |some d=>exact propext (Dh hok ho hd n done fr M u (by rw[hr];exact h2) hu).symm
     |_=>rfl
end
theorem jJ {P:Program} {tt:TT} {ops:List Oper} {fr:List AV} {M:aj} {K:List AV->aj->Prop} (qs:List Nat) (hqs:qs.all (ya ops)=true) (h:lH P tt (some .own) ops qs K ops.length [] fr M):fM P tt ops fr M K:=
 s4 (by rw[oY hqs] at h;exact h)
theorem kF {P:Program} {tt:TT} {ops:List Oper} {fr:List AV} {M:aj} {K:List AV->aj->Prop} (qs:List Nat) (hqs:qs.all (ya ops)=true) (h:lH P tt none ops qs K ops.length [] fr M):fM P tt ops fr M K:=
 GA (by rw[oY hqs] at h;exact h)
end Go.Proofs.YtekmminpfhacpaaGreatDoor
