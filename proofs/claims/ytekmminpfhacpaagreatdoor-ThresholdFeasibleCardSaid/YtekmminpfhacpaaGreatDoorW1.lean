import Derived.Test.YtekmminpfhacpaaGreatDoorFtE
import Derived.Test.YtekmminpfhacpaaGreatDoorV1
set_option linter.unusedVariables false
set_option linter.unusedSimpArgs false
namespace Go.Proofs.YtekmminpfhacpaaGreatDoor
set_option maxRecDepth 100000
def hJ (k:Int×Int):Value:=.agg #[.int .i64 k.1, .int .i64 k.2]
theorem j5:ra Tryz.prog 157 hJ:=by
 have ht:Tryz.prog.underlying 3=some (.int .i64):=Tryz.underlying3
 have hta:=Tryz.underlying157
 have hag:∀w,(isAgg 3).run Tryz.prog w= .ok false w:=fun w=>by simp[isAgg,run_underlying ht]
 have hsz:∀w,(Go.sizeOf 3).run Tryz.prog w= .ok 1 w:=fun w=>by
  obtain⟨i,hi⟩:∃i,tt.find 3=some i:=⟨_,rfl⟩
  have:=TOk.size ae hi w
  cases hi
  exact this
 refine ra.ask Tryz.underlying157 ?_ ?_ ?_ ?_ ?_
 ·rintro⟨a,b⟩ ⟨c,d⟩ h
  simpa[hJ] using h
 ·rintro e ⟨a,b⟩ w
  have h4:∀n w,(Instr.checkKey e (n+2) 157 (hJ (a,b))).run Tryz.prog w= .ok () w:=fun n w=>by
   simp[Instr.checkKey,run_underlying hta,run_underlying ht,hJ,part,hag,hsz,Std.Legacy.Range.forIn_eq_forIn_range',List.range',List.forIn_cons,List.forIn_nil]
  exact h4 9998 w
 ·intro a b;rfl
 ·rintro⟨a,b⟩ ⟨c,d⟩ w
  refine⟨decide (a=c/\b=d),?_,by simp[hJ]⟩
  have hI:∀n w (x y:Int),(Op.equalIn (n+1) 3 (.int .i64 x) (.int .i64 y)).run Tryz.prog w= .ok (x==y) w:=fun n w x y=>by
   rw[Op.equalIn]
   simp[run_underlying ht]
  have h4:∀n w,(Op.equalIn (n+2) 157 (hJ (a,b)) (hJ (c,d))).run Tryz.prog w= .ok (decide (a=c/\b=d)) w:=fun n w=>by
   rw[Op.equalIn]
   simp only[Sem.run_bind,run_underlying hta,Result.andThen_ok,hJ]
   simp[part,hag,hsz,hI,Std.Legacy.Range.forIn_eq_forIn_range',List.range',List.forIn_cons,List.forIn_nil]
   by_cases h1:a=c<;>by_cases h2:b=d<;>simp[h1,h2]
  exact h4 9998 w
 ·rintro⟨a,b⟩
  have h4:∀n,Instr.sameBits (n+1) (hJ (a,b)) (hJ (a,b))=true:=fun n=>by simp[hJ,Instr.sameBits]
  exact h4 9999
set_option maxHeartbeats 16000000
theorem aj.idn {P:Program} {f:FuncId} {args:List AV} {L0 L:List (Nat×aU)} {u0:AV} (hb:(fe (n7 L) L&&ee L (n7 L)&&u9 (n7 L) (L0.map (·.1)))=true) (hu:lU (n7 L) 400 u0 u0)
  (h:aj P f args (ac.ofL L0) (fun u M=>u=u0/\bD (n7 L) 400 M L)):aj P f args (ac.ofL L0) (fun u M=>u=u0/\M=ac.ofL L):=
 h.norm 400 fun u M' ⟨e,hM⟩=>⟨L,u0,hb,hM,by rw[e];exact hu,rfl,rfl⟩
abbrev MB (p:ap) (q:aJ) (sch:List Int) (n lr nr:Nat):List AV:=[.pd (fi p q), .sl 0 ak sch, .int .i64 n, .mp 210, .mp 211, .mp 212, .mp 213, .mp 214, .mp 215, .mp 216, .row lr nr 2]
noncomputable abbrev gy (vars:List Vb) (k:Int):aU:=.map hJ (Value.int .i64) (mL vars k vars.length)
noncomputable abbrev dx (p:ap) (q:aJ) (sch:List Int) (vars:List Vb) (rows:List br):List (Nat×aU):=
 [(200, .box 156 (MB p q sch vars.length 201 rows.length)),(201, .row 161 av aE rows),(210,gy vars 0),(211,gy vars 1),(212,gy vars 2),(213,gy vars 3),(214,gy vars 4),(215,gy vars 5),(216,gy vars 6)]
noncomputable abbrev fj (p:ap) (q:aJ) (sch:List Int) (vars:List Vb) (rows:List br) (co:Co) (c:Int):List (Nat×aU):=
 [(200, .box 156 (MB p q sch vars.length 201 rows.length)),(201, .row 161 av aE rows),(210,gy vars 0),(211,gy vars 1),(212,gy vars 2),(213,gy vars 3),(214,gy vars 4),(215,gy vars 5),(216,gy vars 6),
  (220, .box 161 [.row 221 vars.length 1, .int .i64 c]),(221, .row 3 0 ak (vars.map co))]
def qd:aV:=[(200, .old 200),(201, .old 201),(210, .old 210),(211, .old 211),(212, .old 212),(213, .old 213),(214, .old 214),(215, .old 215),(216, .old 216),(220, .old 220),(221, .old 221)]
def tQ (X:Int) (co:Co):Prop:=∀v,-X<=co v/\co v<=X
theorem BD (p:ap) (q:aJ) (sch:List Int) (vars:List Vb) (rows:List br) (co:Co) (c:Int) (hn:vars.Nodup) (hv:vars.length<=1000000) (kind:Nat) (hk:kind<7) (seg idx k:Int) (hb:tQ 1152921504606846976 co) (hf:-1152921504606846976<=k/\k<=1152921504606846976):
  aj Tryz.prog 195 [.ptr 200 0, .ptr 220 0, .int .i64 k, .int .i64 (kind:Int), .int .i64 seg, .int .i64 idx] (ac.ofL (fj p q sch vars rows co c))
   (fun u M=>u= .tup []/\M=ac.ofL (fj p q sch vars rows (eo co ⟨kind,seg,idx⟩ k) c)):=by
 have hs:∀b,mL vars kind vars.length (seg,idx)=some b->∃m:Nat,b=m/\m<vars.length/\(vars.map co).set m ((vars.map co).getD m 0+k)=vars.map (eo co ⟨kind,seg,idx⟩ k):=by
  intro b h
  obtain⟨m,rfl,hm,e⟩:=kx h
  refine⟨m,rfl,hm,?_⟩
  rw[ly co hm,KW co k hn hm,e]
 have hno:mL vars kind vars.length (seg,idx)=none->vars.map co=vars.map (eo co ⟨kind,seg,idx⟩ k):=fun h=>(G5 co k (vB h)).symm
 have hg:∀m,m<vars.length->-1152921504606846976<=(vars.map co).getD m 0/\(vars.map co).getD m 0<=1152921504606846976:=fun m hm=>by rw[ly co hm];exact hb _
 have hl:(vars.map co).length=vars.length:=List.length_map ..
 refine aj.idn rfl trivial ?_
 generalize hA:vars.map co=A at hs hno hg hl
 generalize hB:vars.map (eo co ⟨kind,seg,idx⟩ k)=B at hs hno
 have eA:fj p q sch vars rows co c=[(200, .box 156 (MB p q sch vars.length 201 rows.length)),(201, .row 161 av aE rows),(210,gy vars 0),(211,gy vars 1),(212,gy vars 2),(213,gy vars 3),(214,gy vars 4),(215,gy vars 5),(216,gy vars 6),
  (220, .box 161 [.row 221 vars.length 1, .int .i64 c]),(221, .row 3 0 ak A)]:=by unfold fj;rw[hA]
 have eB:fj p q sch vars rows (eo co ⟨kind,seg,idx⟩ k) c=[(200, .box 156 (MB p q sch vars.length 201 rows.length)),(201, .row 161 av aE rows),(210,gy vars 0),(211,gy vars 1),(212,gy vars 2),(213,gy vars 3),(214,gy vars 4),(215,gy vars 5),(216,gy vars 6),
  (220, .box 161 [.row 221 vars.length 1, .int .i64 c]),(221, .row 3 0 ak B)]:=by unfold fj;rw[hB]
 rw[eA,eB]
 clear eA eB hA hB hb
 obtain rfl|rfl|rfl|rfl|rfl|rfl|rfl:kind=0\/kind=1\/kind=2\/kind=3\/kind=4\/kind=5\/kind=6:=by omega
 all_goals
  refine aj.intro ae ag [(200, .box 156 (MB p q sch vars.length 201 rows.length)),(201, .row 161 av aE rows),(210,gy vars 0),(211,gy vars 1),(212,gy vars 2),(213,gy vars 3),(214,gy vars 4),(215,gy vars 5),(216,gy vars 6),
  (220, .box 161 [.row 221 vars.length 1, .int .i64 c]),(221, .row 3 0 ak A)] Tryz.func195 rfl (by decide) ?_
  (conv=>whnf)
  refine bp (by decide) ?_
  (conv=>whnf)
  refine F0 j5 (seg,idx) rfl (fun b hb=>?_) (fun hb=>?_)<;>(conv=>whnf)
  ·obtain⟨m,rfl,hm,e⟩:=hs b hb
   have h1:=hg m hm
   have h2:-1152921504606846976<=A.getD (m:Int).toNat 0/\A.getD (m:Int).toNat 0<=1152921504606846976:=by rw[tN];exact h1
   subst e
   repeat' first|refine dt ?_;conv=>whnf|fail
   refine an (A.getD (m:Int).toNat 0+k) rfl ?_
   (conv=>whnf)
   exact⟨rfl,(aa)⟩
  ·have e:=hno hb
   subst e
   exact⟨rfl,(aa)⟩
theorem Lf (p:ap) (q:aJ) (sch:List Int) (vars:List Vb) (rows:List br) (co:Co) (c:Int) (hn:vars.Nodup) (hv:vars.length<=1000000) (kind:Int) (hk:0<=kind/\kind<7) (seg idx k:Int) (hb:tQ 1152921504606846976 co) (hf:-1152921504606846976<=k/\k<=1152921504606846976):
  aj Tryz.prog 195 [.ptr 200 0, .ptr 220 0, .int .i64 k, .int .i64 kind, .int .i64 seg, .int .i64 idx] (ac.ofL (fj p q sch vars rows co c))
   (fun u M=>u= .tup []/\M=ac.ofL (fj p q sch vars rows (eo co ⟨kind,seg,idx⟩ k) c)):=by
 obtain⟨n,rfl⟩:∃n:Nat,kind=n:=⟨kind.toNat,by omega⟩
 exact BD p q sch vars rows co c hn hv n (by omega) seg idx k hb hf
theorem rX {X:Int} {co:Co} (h:tQ X co) (v0:Vb) {k Y:Int} (hk:-Y<=k/\k<=Y) (hY:0<=Y):tQ (X+Y) (eo co v0 k):=fun v=>by
 unfold eo
 have:=h v
 split<;>omega
theorem bo {X Y:Int} {co:Co} (h:tQ X co) (hX:X<=Y):tQ Y co:=fun v=>by
 have:=h v
 omega
theorem rY {k a:Int} (hk:cP k) (ha:cP a):-10000<=k*a/\k*a<=10000:=Bx hk ha
theorem EY (p:ap) (q:aJ) (sch:List Int) (vars:List Vb) (rows:List br) (co:Co) (c:Int) (hn:vars.Nodup) (hv:vars.length<=1000000) (k:Int) (l:l7) (hb:tQ 1099511627776 co) (hc:-1099511627776<=c/\c<=1099511627776) (hk:cP k) (hl:fP l):
  aj Tryz.prog 194 [.ptr 200 0, .ptr 220 0, .int .i64 k, .agg (cV l)] (ac.ofL (fj p q sch vars rows co c))
   (fun u M=>u= .tup []/\M=ac.ofL (fj p q sch vars rows (cB co k (gt l)) (c+k*l.c))):=by
 obtain⟨lc,ln,lt,lf⟩:=hl
 have b0:=rY hk lc
 have b1:=rY hk ln
 have b2:=rY hk lt
 have b3:=rY hk lf
 have e1:=rX hb ⟨0,0,0⟩ (k:=k*l.n) (Y:=10000) (by omega) (by omega)
 have e2:=rX e1 ⟨1,0,0⟩ (k:=k*l.t) (Y:=10000) (by omega) (by omega)
 have a1:=Lf p q sch vars rows co c hn hv 0 (by omega) 0 0 (k*l.n) (bo hb (by omega)) (by omega)
 have a2:=Lf p q sch vars rows _ c hn hv 1 (by omega) 0 0 (k*l.t) (bo e1 (by omega)) (by omega)
 have a3:=Lf p q sch vars rows _ c hn hv 2 (by omega) 0 0 (k*l.f) (bo e2 (by omega)) (by omega)
 rw[KZ] at a3
 generalize eo co ⟨0,0,0⟩ (k*l.n)=d1 at*
 generalize eo d1 ⟨1,0,0⟩ (k*l.t)=d2 at*
 refine aj.idn rfl trivial ?_
 refine aj.intro ae ag (fj p q sch vars rows co c) Tryz.func194 rfl (by decide) ?_
 simp only[gX]
 rw[show Tryz.f194.ntmps=40 from rfl]
 simp only[bO]
 simp only[cD]
 rw[bq]
 simp only[gv,aF,List.map_cons,List.map_nil,aZ]
 conv=>whnf
 refine ar rfl ?_
 conv=>whnf
 repeat' first|refine dt ?_;conv=>whnf|fail
 refine aj.call qd (fj p q sch vars rows co c) 400 rfl (aa) (aa) a1 ?_
 rintro u M' ⟨rfl,rfl⟩
 refine⟨qd,fj p q sch vars rows d1 c, .tup [],rfl,(aa),trivial,?_⟩
 conv=>whnf
 repeat' first|refine dt ?_;conv=>whnf|fail
 refine aj.call qd (fj p q sch vars rows d1 c) 400 rfl (aa) (aa) a2 ?_
 rintro u M' ⟨rfl,rfl⟩
 refine⟨qd,fj p q sch vars rows d2 c, .tup [],rfl,(aa),trivial,?_⟩
 conv=>whnf
 repeat' first|refine dt ?_;conv=>whnf|fail
 refine aj.call qd (fj p q sch vars rows d2 c) 400 rfl (aa) (aa) a3 ?_
 rintro u M' ⟨rfl,rfl⟩
 refine⟨qd,fj p q sch vars rows (cB co k (gt l)) c, .tup [],rfl,(aa),trivial,?_⟩
 conv=>whnf
 refine Gd rfl ?_
 conv=>whnf
 repeat' first|refine dt ?_;conv=>whnf|fail
 exact⟨rfl,(aa)⟩
theorem HO (rs:List bE) (start fire state:Int) (co:Co) (k:Int):eo co ⟨start,0,state⟩ k=cB co k (cG rs start fire state 0 0):=by
 funext v
 have h:¬gg rs.length fire (0:Nat) 0 v:=by unfold gg;omega
 unfold eo cB cG
 rw[if_neg h]
 by_cases e:v=⟨start,0,state⟩
 ·rw[if_pos e,if_pos e];omega
 ·rw[if_neg e,if_neg e];omega
theorem HP (rs:List bE) (fire message:Int) (co:Co) (k:Int):cB co k (cH rs fire message 0 0)=co:=by
 funext v
 have h:¬(gg rs.length fire (0:Nat) 0 v/\message∈(rs.getD v.idx.toNat au).send):=by unfold gg;omega
 unfold cB cH
 rw[if_neg h];omega
theorem mN {X:Int} {co d:Co} {k:Int} (h:tQ X co) (hk:cP k) (hd:∀v,-2<=d v/\d v<=2):tQ (X+200) (cB co k d):=fun v=>by
 have a:=h v
 have b:-(100*2)<=k*d v/\k*d v<=100*2:=Bx hk (hd v)
 unfold cB
 omega
theorem C5 (p:ap) (q:aJ) (sch:List Int) (vars:List Vb) (rows:List br) (co:Co) (c:Int) (hn:vars.Nodup) (hv:vars.length<=1000000) (k state:Int) (start fire seg:Nat) (hst:start<7) (hfi:fire<7) (hsg:seg<=10) (hr:p.rules.length<=1000) (hb:tQ 1099511627776 co) (hk:cP k):
  aj Tryz.prog 197 [.ptr 200 0, .ptr 220 0, .int .i64 k, .int .i64 (start:Int), .int .i64 (fire:Int), .int .i64 state, .int .i64 (seg:Int)] (ac.ofL (fj p q sch vars rows co c))
   (fun u M=>u= .tup []/\M=ac.ofL (fj p q sch vars rows (cB co k (cG p.rules start fire state (seg+1) 0)) c)):=by
 have hkb:-100<=k/\k<=100:=hk
 have a0:=BD p q sch vars rows co c hn hv start hst 0 state k (bo hb (by omega)) (by omega)
 rw[HO p.rules start fire state] at a0
 have hFb:∀j i,tQ 1099511627976 (cB co k (cG p.rules start fire state j i)):=fun j i=>mN hb hk fun v=>by have:=G6 p.rules start fire state j i v;omega
 have hFn:=fun j i=>G9 p.rules start fire state j i co k
 have hFe:=fun j=>congrArg (cB co k) (KX p.rules start fire state j)
 obtain⟨F,hF⟩:∃F:Nat->Nat->Co,F=fun j i=>cB co k (cG p.rules start fire state j i):=⟨_,rfl⟩
 have e0:∀j i,cB co k (cG p.rules start fire state j i)=F j i:=fun j i=>by rw[hF]
 simp only[e0] at a0 hFb hFn hFe
 rw[e0]
 clear e0 hF
 refine aj.idn rfl trivial ?_
 refine aj.intro ae ag (fj p q sch vars rows co c) Tryz.func197 rfl (by decide) ?_
 conv=>whnf
 refine aj.call qd (fj p q sch vars rows co c) 400 rfl (aa) (aa) a0 ?_
 rintro u M' ⟨rfl,rfl⟩
 refine⟨qd,fj p q sch vars rows (F 0 0) c, .tup [],rfl,(aa),trivial,?_⟩
 conv=>whnf
 repeat' first|refine dt ?_;conv=>whnf|fail
 refine a8.loopF ae ag (fun j:Nat=>j<=seg+1) (fun j=>[(25, .int .i64 (j:Int))]) (fun j=>fj p q sch vars rows (F j 0) c) (fun j=>seg+1-j) 0 (Nat.zero_le _) ?_;conv=>whnf
 refine⟨bd.by_ qd _ 400 rfl (aa) (aa),?_⟩
 rintro j hj
 conv=>whnf
 refine ai ?_ ?_<;>(intro h1;conv=>whnf)
 ·repeat' first|refine dt ?_;conv=>whnf|fail
  refine a8.loopF ae ag (fun i:Nat=>i<=p.rules.length) (fun i=>[(37, .int .i64 (i:Int))]) (fun i=>fj p q sch vars rows (F j i) c) (fun i=>p.rules.length-i) 0 (Nat.zero_le _) ?_;conv=>whnf
  refine⟨bd.by_ qd _ 400 rfl (aa) (aa),?_⟩
  rintro i hi
  conv=>whnf
  refine ai ?_ ?_<;>(intro h2;conv=>whnf)
  ·have hlt:i<p.rules.length:=by omega
   have hs:=hFn j i
   unfold G8 at hs
   dsimp only at hs
   repeat' first|refine dt ?_;conv=>whnf|fail
   refine ai ?_ ?_<;>(intro h3;conv=>whnf)
   ·rw[tN] at h3;rw[if_pos h3] at hs
    have a1:=BD p q sch vars rows (F j i) c hn hv fire hfi j i k (bo (hFb j i) (by omega)) (by omega)
    have hG:=rX (hFb j i) ⟨fire,j,i⟩ (k:=k) (Y:=100) hkb (by omega)
    generalize eo (F j i) ⟨fire,j,i⟩ k=G at a1 hs hG
    repeat' first|refine dt ?_;conv=>whnf|fail
    refine aj.call qd (fj p q sch vars rows (F j i) c) 400 rfl (aa) (aa) a1 ?_
    rintro u M' ⟨rfl,rfl⟩
    refine⟨qd,fj p q sch vars rows G c, .tup [],rfl,(aa),trivial,?_⟩
    conv=>whnf
    repeat' first|refine dt ?_;conv=>whnf|fail
    refine ai ?_ ?_<;>(intro h4;conv=>whnf)
    ·rw[tN] at h4;rw[if_pos h4] at hs
     have a2:=BD p q sch vars rows G c hn hv fire hfi j i (-k) (bo hG (by omega)) (by omega)
     rw[<-hs] at a2
     repeat' first|refine dt ?_;conv=>whnf|fail
     refine aj.call qd (fj p q sch vars rows G c) 400 rfl (aa) (aa) a2 ?_
     rintro u M' ⟨rfl,rfl⟩
     refine⟨qd,fj p q sch vars rows (F j (i+1)) c, .tup [],rfl,(aa),trivial,?_⟩
     conv=>whnf
     repeat' first|refine dt ?_;conv=>whnf|fail
     refine⟨i+1,?_,by omega,by dsimp only;omega⟩
     exact bd.by_ qd _ 400 rfl (aa) (aa)
    ·rw[tN] at h4;rw[if_neg h4] at hs
     repeat' first|refine dt ?_;conv=>whnf|fail
     refine⟨i+1,?_,by omega,by dsimp only;omega⟩
     dsimp only
     rw[hs]
     exact bd.by_ qd _ 400 rfl (aa) (aa)
   ·rw[tN] at h3;rw[if_neg h3] at hs
    repeat' first|refine dt ?_;conv=>whnf|fail
    refine ai ?_ ?_<;>(intro h4;conv=>whnf)
    ·rw[tN] at h4;rw[if_pos h4] at hs
     have a2:=BD p q sch vars rows (F j i) c hn hv fire hfi j i (-k) (bo (hFb j i) (by omega)) (by omega)
     rw[<-hs] at a2
     repeat' first|refine dt ?_;conv=>whnf|fail
     refine aj.call qd (fj p q sch vars rows (F j i) c) 400 rfl (aa) (aa) a2 ?_
     rintro u M' ⟨rfl,rfl⟩
     refine⟨qd,fj p q sch vars rows (F j (i+1)) c, .tup [],rfl,(aa),trivial,?_⟩
     conv=>whnf
     repeat' first|refine dt ?_;conv=>whnf|fail
     refine⟨i+1,?_,by omega,by dsimp only;omega⟩
     exact bd.by_ qd _ 400 rfl (aa) (aa)
    ·rw[tN] at h4;rw[if_neg h4] at hs
     repeat' first|refine dt ?_;conv=>whnf|fail
     refine⟨i+1,?_,by omega,by dsimp only;omega⟩
     dsimp only
     rw[hs]
     exact bd.by_ qd _ 400 rfl (aa) (aa)
  ·repeat' first|refine dt ?_;conv=>whnf|fail
   refine⟨j+1,?_,by omega,by dsimp only;omega⟩
   obtain rfl:i=p.rules.length:=by omega
   dsimp only
   rw[<-hFe j]
   exact bd.by_ qd _ 400 rfl (aa) (aa)
 ·obtain rfl:j=seg+1:=by omega
  exact⟨rfl,(aa)⟩
theorem C6 (p:ap) (q:aJ) (sch:List Int) (vars:List Vb) (rows:List br) (co:Co) (c:Int) (hn:vars.Nodup) (hv:vars.length<=1000000) (k message:Int) (fire seg:Nat) (hfi:fire<7) (hsg:seg<=10) (hr:p.rules.length<=1000) (hsd:∀i,i<p.rules.length->(p.rules.getD i au).send.length<=1000000) (hb:tQ 1099511627776 co) (hk:cP k):
  aj Tryz.prog 196 [.ptr 200 0, .ptr 220 0, .int .i64 k, .int .i64 (fire:Int), .int .i64 message, .int .i64 (seg:Int)] (ac.ofL (fj p q sch vars rows co c))
   (fun u M=>u= .tup []/\M=ac.ofL (fj p q sch vars rows (cB co k (cH p.rules fire message seg 0)) c)):=by
 have hkb:-100<=k/\k<=100:=hk
 have hF0:=HP p.rules fire message co k
 have hFb:∀j i,tQ 1099511627976 (cB co k (cH p.rules fire message j i)):=fun j i=>mN hb hk fun v=>by have:=vC p.rules fire message j i v;omega
 have hFn:=fun j i=>G7 p.rules fire message j i co k
 have hFe:=fun j=>congrArg (cB co k) (KY p.rules fire message j)
 obtain⟨F,hF⟩:∃F:Nat->Nat->Co,F=fun j i=>cB co k (cH p.rules fire message j i):=⟨_,rfl⟩
 have e0:∀j i,cB co k (cH p.rules fire message j i)=F j i:=fun j i=>by rw[hF]
 simp only[e0] at hF0 hFb hFn hFe
 rw[e0]
 clear e0 hF
 subst hF0
 refine aj.idn rfl trivial ?_
 refine aj.intro ae ag (fj p q sch vars rows (F 0 0) c) Tryz.func196 rfl (by decide) ?_
 conv=>whnf
 refine a8.loopF ae ag (fun j:Nat=>j<=seg) (fun j=>[(16, .int .i64 (j:Int))]) (fun j=>fj p q sch vars rows (F j 0) c) (fun j=>seg-j) 0 (Nat.zero_le _) ?_;conv=>whnf
 refine⟨bd.by_ qd _ 400 rfl (aa) (aa),?_⟩
 rintro j hj
 conv=>whnf
 refine ai ?_ ?_<;>(intro h1;conv=>whnf)
 ·repeat' first|refine dt ?_;conv=>whnf|fail
  refine a8.loopF ae ag (fun i:Nat=>i<=p.rules.length) (fun i=>[(28, .int .i64 (i:Int))]) (fun i=>fj p q sch vars rows (F j i) c) (fun i=>p.rules.length-i) 0 (Nat.zero_le _) ?_;conv=>whnf
  refine⟨bd.by_ qd _ 400 rfl (aa) (aa),?_⟩
  rintro i hi
  conv=>whnf
  refine ai ?_ ?_<;>(intro h2;conv=>whnf)
  ·have hlt:i<p.rules.length:=by omega
   have hs:=hFn j i
   repeat' first|refine dt ?_;conv=>whnf|fail
   refine dC (bN (p.rules.getD i au).send message (Nat.le_trans (hsd i hlt) (by omega))) (fun _=>?_) (fun _=>?_)<;>(conv=>whnf)
   ·rename_i h3
    rw[if_pos h3] at hs
    have a1:=BD p q sch vars rows (F j i) c hn hv fire hfi j i k (bo (hFb j i) (by omega)) (by omega)
    rw[<-hs] at a1
    repeat' first|refine dt ?_;conv=>whnf|fail
    refine aj.call qd (fj p q sch vars rows (F j i) c) 400 rfl (aa) (aa) a1 ?_
    rintro u M' ⟨rfl,rfl⟩
    refine⟨qd,fj p q sch vars rows (F j (i+1)) c, .tup [],rfl,(aa),trivial,?_⟩
    conv=>whnf
    repeat' first|refine dt ?_;conv=>whnf|fail
    refine⟨i+1,?_,by omega,by dsimp only;omega⟩
    exact bd.by_ qd _ 400 rfl (aa) (aa)
   ·rename_i h3
    rw[if_neg h3] at hs
    repeat' first|refine dt ?_;conv=>whnf|fail
    refine⟨i+1,?_,by omega,by dsimp only;omega⟩
    dsimp only
    rw[hs]
    exact bd.by_ qd _ 400 rfl (aa) (aa)
  ·repeat' first|refine dt ?_;conv=>whnf|fail
   refine⟨j+1,?_,by omega,by dsimp only;omega⟩
   obtain rfl:i=p.rules.length:=by omega
   dsimp only
   rw[<-hFe j]
   exact bd.by_ qd _ 400 rfl (aa) (aa)
 ·obtain rfl:j=seg:=by omega
  exact⟨rfl,(aa)⟩
def dX:aV:=[(200, .old 200),(201, .old 201),(210, .old 210),(211, .old 211),(212, .old 212),(213, .old 213),(214, .old 214),(215, .old 215),(216, .old 216)]
noncomputable abbrev pD (p:ap) (q:aJ) (sch:List Int) (vars:List Vb) (rows:List br):List (Nat×aU):=
 [(200, .box 156 (MB p q sch vars.length 202 rows.length)),(201, .dead),(202, .row 161 av aE rows),(210,gy vars 0),(211,gy vars 1),(212,gy vars 2),(213,gy vars 3),(214,gy vars 4),(215,gy vars 5),(216,gy vars 6)]
theorem HQ (vars:List Vb):List.replicate vars.length (0:Int)=vars.map zC:=by
 apply List.ext_getElem
 ·simp
 ·intro i h1 h2;simp[zC]
theorem BE (p:ap) (q:aJ) (sch:List Int) (vars:List Vb) (rows:List br) (hv:vars.length<=1000000):
  aj Tryz.prog 193 [.ptr 200 0] (ac.ofL (dx p q sch vars rows))
   (fun u M=>u= .agg [.row 221 vars.length 1, .int .i64 0]/\M=ac.ofL (dx p q sch vars rows++[(221, .row 3 0 ak (vars.map zC))])):=by
 rw[<-HQ]
 refine aj.renorm 400 (R:=fun u M=>u= .agg [.row 7 vars.length 1, .int .i64 0]/\bD (dX++[(221, .old 7)]) 400 M (dx p q sch vars rows++[(221, .row 3 0 ak (List.replicate vars.length (0:Int)))])) ?_ ?_
 case refine_2=>
  rintro u M ⟨rfl,hM⟩
  exact⟨dX++[(221, .old 7)],_,_,rfl,hM,(aa),rfl,rfl⟩
 refine aj.intro ae ag (dx p q sch vars rows) Tryz.func193 rfl (by decide) ?_
 conv=>whnf
 refine Cd 0 ak 0 rfl (by dsimp only;omega) ?_
 conv=>whnf
 exact⟨rfl,(aa)⟩
theorem RO (p:ap) (q:aJ) (sch:List Int) (vars:List Vb) (rows:List br) (hn:vars.Nodup) (hv:vars.length<=1000000) (hr:rows.length<=1000000) (l:l7) (hl:fP l):
  aj Tryz.prog 106 [.ptr 200 0, .agg (cV l)] (ac.ofL (dx p q sch vars rows))
   (fun u M=>u= .tup []/\M=ac.ofL (pD p q sch vars (rows++[dj vars (uH l)]))):=by
 have hz:tQ 1099511627776 zC:=fun v=>by unfold zC;omega
 have a1:=EY p q sch vars rows zC 0 hn hv 1 l hz (by omega) (by unfold cP;omega) hl
 have e1:cB zC 1 (gt l)=gt l:=by funext v;unfold cB zC;omega
 have e2:0+1*l.c=l.c:=by omega
 rw[e1,e2] at a1
 refine aj.renorm 400 (R:=fun u M=>u= .tup []/\bD ((202, .old 17)::dX) 400 M (pD p q sch vars (rows++[dj vars (uH l)]))) ?_ ?_
 case refine_2=>
  rintro u M ⟨rfl,hM⟩
  exact⟨(202, .old 17)::dX,_, .tup [],rfl,hM,trivial,rfl,rfl⟩
 refine aj.intro ae ag (dx p q sch vars rows) Tryz.func106 rfl (by decide) ?_
 simp only[gX]
 rw[show Tryz.f106.ntmps=20 from rfl]
 simp only[bO]
 simp only[cD]
 rw[bq]
 simp only[gv,aF,List.map_cons,List.map_nil,aZ]
 conv=>whnf
 refine ar rfl ?_
 conv=>whnf
 refine aj.call dX (dx p q sch vars rows) 400 rfl (aa) (aa) (BE p q sch vars rows hv) ?_
 rintro u M' ⟨rfl,rfl⟩
 refine⟨dX++[(221, .old 221)],dx p q sch vars rows++[(221, .row 3 0 ak (vars.map zC))], .agg [.row 221 vars.length 1, .int .i64 0],rfl,(aa),(aa),?_⟩
 conv=>whnf
 refine aj.call (dX++[(220, .old 4),(221, .old 221)]) (fj p q sch vars rows zC 0) 400 rfl (aa) (aa) a1 ?_
 rintro u M' ⟨rfl,rfl⟩
 refine⟨dX++[(4, .old 220),(221, .old 221)],dx p q sch vars rows++[(4, .box 161 [.row 221 vars.length 1, .int .i64 l.c]),(221, .row 3 0 ak (vars.map (gt l)))], .tup [],rfl,(aa),trivial,?_⟩
 conv=>whnf
 refine o9 ?_
 conv=>whnf
 repeat' first
  |exact True.intro
  |(refine And.intro ?_ ?_<;>conv=>whnf)
  |(refine c7 av aE [dj vars (uH l)] rfl ?_;conv=>whnf)
  |(refine dn ?_;conv=>whnf)
  |(refine di [dj vars (uH l)] rfl lI ?_;conv=>whnf)
  |exact rfl
  |exact(List.length_append ..).symm
  |fail
def PL:Op->Bool
 |.move _| .fieldAddr _ _ _| .nilCheck _| .indexAddr _ _ _| .build _ _| .field _ _ _=>true
 |_=>false
def fu (d:Nat) (xs:List Operand):Bool:=xs.any fun x=>match x with
 |.tmp t=>Nat.beq t d
 |_=>false
def gz (x:Oper) (q:Nat):Bool:=x.after.toList.any fun e=>Region.binds .any e&&Nat.beq e.on q
def zn (d:Nat):Option Tmp->Bool
 |some e=>!(Nat.beq e d)
 |none=>true
def EZ (all:List Oper) (q:Nat):Bool:=match all[q]? with
 |none=>false
 |some o=>match o.dst with
  |none=>false
  |some d=>PL o.op&&o.guard.isNone&&(List.range all.length).all fun j=>Nat.beq j q||match all[j]? with
   |none=>true
   |some x=>x.guard.isNone&&zn d x.dst&&(!(fu d (aF x.op))||gz x q)&&(match x.dst with|none=>true|some e=>!(fu e (aF o.op))||gz o j)
def xj:List Nat->List Nat->Option Nat
 |[],_=>none
 |q::qs,l=>match l.any (Nat.beq q) with
  |true=>some q
  |false=>xj qs l
def Qt (tt:TT) (all:List Oper) (q:Nat) (fr:List AV) (k1:List AV->Prop) (k2:Prop):Prop:=match all[q]? with
 |none=>k2
 |some o=>AN fr (aF o.op) fun us=>match uq tt o.op us with
  |.val u=>jd u fun u=>mm fr o.dst u k1
  |_=>k2
def pE (P:Program) (tt:TT) (d:Option aG) (all:List Oper) (qs:List Nat) (K:List AV->ac->Prop):Nat->List Nat->List AV->ac->Prop
 |0,done,fr,M=>match cI all done with
  |[]=>K fr M
  |_::_=>False
 |n+1,done,fr,M=>match cI all done with
  |[]=>K fr M
  |i::l=>match xj qs (i::l) with
   |none=>oq (i::l) fun j=>Al P tt d all j fr M (pE P tt d all qs K n (j::done))
   |some q=>Qt tt all q fr (fun fr'=>pE P tt d all qs K n (q::done) fr' M) (oq (i::l) fun j=>Al P tt d all j fr M (pE P tt d all qs K n (j::done)))
section
variable {P:Program} {tt:TT} {dm:Option aG} {all:List Oper} {K K':List AV->ac->Prop} {fr:List AV} {M:ac}
theorem pF:∀{qs l:List Nat} {q:Nat},xj qs l=some q->q∈qs/\q∈l
 |[],_,_,h=>by cases h
 |a::qs,l,q,h=>by
  rw[xj] at h
  split at h
  ·rename_i ha
   cases h
   exact⟨List.mem_cons_self,fX.1 ha⟩
  ·obtain⟨h1,h2⟩:=pF h
   exact⟨List.mem_cons_of_mem _ h1,h2⟩
theorem kE {d:Nat} {u:AV}:∀{xs:List Operand},fu d xs=false->xs.map (cC (fr.set d u))=xs.map (cC fr)
 |[],_=>rfl
 |x::xs,h=>by
  unfold fu at h
  rw[List.any_cons,Bool.or_eq_false_iff] at h
  rw[List.map_cons,List.map_cons,kE (xs:=xs) h.2]
  congr 1
  cases x with
  |tmp t=>
   have hne:t≠d:=fun e=>by subst e;simp at h
   simp only[cC,gD,List.getElem?_set_ne (Ne.symm hne)]
  |const v=>rfl
  |func f=>rfl
  |global g=>rfl
theorem qL {o:Oper} {d:Nat} {u:AV} (hg:o.guard=none) (hd:zn d o.dst=true) (hu:fu d (aF o.op)=false):bI P tt dm all o (fr.set d u) M K=bI P tt dm all o fr M fun fr' M'=>K (fr'.set d u) M':=by
 unfold bI kZ
 rw[hg]
 simp only[fA,eU]
 rw[kE hu]
 congr 1
 funext w M'
 congr 1
 cases hdst:o.dst with
 |none=>rfl
 |some e=>
  rw[hdst] at hd
  have hne:e≠d:=fun h=>by subst h;simp[zn] at hd
  simp only[b8]
  exact List.set_comm _ _ (Ne.symm hne)
theorem mO {o:Oper} (hg:o.guard=none) (h:∀w M',K (b8 fr o.dst w) M'=K' (b8 fr o.dst w) M'):bI P tt dm all o fr M K=bI P tt dm all o fr M K':=by
 unfold bI kZ
 rw[hg]
 simp only[fA,eU,h]
theorem pG {o:Oper} {d:Nat} {u:AV} (hg:o.guard=none) (hd:o.dst=some d) (hq:PL o.op=true) (hu:uq tt o.op ((aF o.op).map (cC fr))= .val u):bI P tt dm all o fr M K=K (fr.set d u) M:=by
 have hs:∀us K',aZ P tt dm o us M K'=gH (uq tt o.op us) fun u=>K' u M:=fun us K'=>by
  unfold aZ
  unfold PL at hq
  split at hq
  all_goals first
   |(rename_i e;rw[e];cases dm with
     |none=>rfl
     |some r=>cases r<;>rfl)
   |exact absurd hq (by decide)
 unfold bI kZ
 rw[hg]
 simp only[fA,eU,hs,hu,hd,b8,gH,bH]
theorem zo {f:Nat->Prop}:∀{l:List Nat},oq l f↔∀i∈l,f i
 |[]=>by simp[oq]
 |i::l=>by rw[oq,zo];simp
theorem cM {done:List Nat} {i:Nat}:i∈cI all done↔i∉done/\∃o,all[i]? =some o/\∀e∈o.after.toList,Region.binds .any e=true->e.on<all.length/\e.on∈done:=by
 unfold cI
 rw[List.mem_filter,List.mem_range]
 constructor
 ·rintro⟨h1,h2⟩
  rw[Bool.and_eq_true] at h2
  refine⟨fun h=>?_,?_⟩
  ·have:=h2.1;rw[fX.2 h] at this;cases this
  ·have h3:=h2.2
   cases ho:all[i]? with
   |none=>rw[ho] at h3;cases h3
   |some o=>
    rw[ho] at h3
    refine⟨o,rfl,fun e he hb=>?_⟩
    have:=List.all_eq_true.1 h3 e he
    rw[hb] at this
    simpa[fX] using this
 ·rintro⟨h1,o,ho,h2⟩
  have hlt:i<all.length:=by
   rcases Nat.lt_or_ge i all.length with h|h
   ·exact h
   ·rw[List.getElem?_eq_none h] at ho;cases ho
  refine⟨hlt,?_⟩
  rw[ho,Bool.and_eq_true]
  refine⟨?_,List.all_eq_true.2 fun e he=>?_⟩
  ·cases hh:done.any (Nat.beq i) with
   |true=>exact absurd (fX.1 hh) h1
   |false=>rfl
  ·cases hb:Region.binds .any e with
   |false=>rfl
   |true=>
    obtain⟨h3,h4⟩:=h2 e he hb
    have:done.any (Nat.beq e.on)=true:=fX.2 h4
    simp[h3,this]
theorem tR {d1 d2:List Nat} (h:∀i,i∈d1↔i∈d2):cI all d1=cI all d2:=by
 have e:∀i,d1.any (Nat.beq i)=d2.any (Nat.beq i):=fun i=>by
  rw[Bool.eq_iff_iff,fX,fX,h]
 unfold cI
 simp only[e]
theorem lE:∀(n:Nat) (d1 d2:List Nat) (_:∀i,i∈d1↔i∈d2),be P tt dm all K n d1=be P tt dm all K n d2
 |0,d1,d2,h=>by
  funext fr M
  rw[be,be,tR h]
 |n+1,d1,d2,h=>by
  funext fr M
  rw[be,be,tR h]
  cases cI all d2 with
  |nil=>rfl
  |cons i l=>
   have e:∀j,be P tt dm all K n (j::d1)=be P tt dm all K n (j::d2):=fun j=>lE n _ _ fun i=>by rw[List.mem_cons,List.mem_cons,h]
   simp only[e]
theorem eZ {n:Nat} {done:List Nat} (h:cI all done≠[]):be P tt dm all K (n+1) done fr M↔∀j∈cI all done,Al P tt dm all j fr M (be P tt dm all K n (j::done)):=by
 rw[be]
 cases hr:cI all done with
 |nil=>exact absurd hr h
 |cons i l=>exact zo
theorem cr {j:Nat} {o:Oper} (h:all[j]? =some o):Al P tt dm all j fr M K=bI P tt dm all o fr M K:=by
 unfold Al;rw[h]
theorem Lg {q:Nat} {o:Oper} {d:Nat} (hok:EZ all q=true) (ho:all[q]? =some o) (hd:o.dst=some d):∀(n:Nat) (done:List Nat) (fr:List AV) (M:ac) (u:AV),q∈cI all done->uq tt o.op ((aF o.op).map (cC fr))= .val u->
  (be P tt dm all K (n+1) done fr M↔be P tt dm all K n (q::done) (fr.set d u) M):=by
 unfold EZ at hok
 rw[ho] at hok
 simp only[hd,Bool.and_eq_true,Option.isNone_iff_eq_none] at hok
 obtain⟨⟨hqt,hg⟩,hall⟩:=hok
 have hpair:∀j x,all[j]? =some x->j≠q->x.guard=none/\zn d x.dst=true/\(fu d (aF x.op)=false\/gz x q=true)/\∀e,x.dst=some e->fu e (aF o.op)=false\/gz o j=true:=fun j x hx hne=>by
  have hj:j<all.length:=by
   rcases Nat.lt_or_ge j all.length with h|h
   ·exact h
   ·rw[List.getElem?_eq_none h] at hx;cases hx
  have:=List.all_eq_true.1 hall j (List.mem_range.2 hj)
  rw[hx] at this
  have hb:Nat.beq j q=false:=by cases h:Nat.beq j q with|false=>rfl|true=>exact absurd (Nat.eq_of_beq_eq_true h) hne
  simp only[hb,Bool.false_or,Bool.and_eq_true,Option.isNone_iff_eq_none,Bool.or_eq_true,Bool.not_eq_true'] at this
  obtain⟨⟨⟨h1,h2⟩,h3⟩,h4⟩:=this
  refine⟨h1,h2,h3,fun e he=>?_⟩
  rw[he] at h4
  simpa using h4
 have edge:∀{x:Oper} {k:Nat} {done:List Nat},gz x k=true->(∀e∈x.after.toList,Region.binds .any e=true->e.on<all.length/\e.on∈done)->k∈done:=fun{x k done} he h=>by
  unfold gz at he
  obtain⟨e,hm,hb⟩:=List.any_eq_true.1 he
  rw[Bool.and_eq_true] at hb
  have:=(h e hm hb.1).2
  rwa [Nat.eq_of_beq_eq_true hb.2] at this
 intro n
 induction n with
 |zero=>
  intro done fr M u hq hu
  have hne:cI all done≠[]:=List.ne_nil_of_mem hq
  rw[eZ hne]
  constructor
  ·intro h
   have:=h q hq
   rw[cr ho,pG hg hd hqt hu] at this
   exact this
  ·intro h j hj
   by_cases e:j=q
   ·subst e
    rw[cr ho,pG hg hd hqt hu]
    exact h
   ·exfalso
    have hj2:j∈cI all (q::done):=by
     rw[cM] at hj⊢
     obtain⟨h1,x,hx,h2⟩:=hj
     exact⟨fun h=>by rcases List.mem_cons.1 h with h|h;exact e h;exact h1 h,x,hx,fun e he hb=>⟨(h2 e he hb).1,List.mem_cons_of_mem _ (h2 e he hb).2⟩⟩
    rw[be] at h
    cases hr:cI all (q::done) with
    |nil=>rw[hr] at hj2;cases hj2
    |cons a l=>rw[hr] at h;exact h
 |succ m ih=>
  intro done fr M u hq hu
  have hne:cI all done≠[]:=List.ne_nil_of_mem hq
  rw[eZ hne]
  constructor
  ·intro h
   have:=h q hq
   rw[cr ho,pG hg hd hqt hu] at this
   exact this
  ·intro h j hj
   by_cases e:j=q
   ·subst e
    rw[cr ho,pG hg hd hqt hu]
    exact h
   ·have hj':=cM.1 hj
    have hq':=cM.1 hq
    obtain⟨h1,x,hx,h2⟩:=hj'
    obtain⟨g1,o',ho',g2⟩:=hq'
    rw[ho] at ho';cases ho'
    obtain⟨p1,p2,p3,p4⟩:=hpair j x hx e
    have hj2:j∈cI all (q::done):=cM.2 ⟨fun h=>by rcases List.mem_cons.1 h with h|h;exact e h;exact h1 h,x,hx,fun e he hb=>⟨(h2 e he hb).1,List.mem_cons_of_mem _ (h2 e he hb).2⟩⟩
    have hq2:q∈cI all (j::done):=cM.2 ⟨fun h=>by rcases List.mem_cons.1 h with h|h;exact e h.symm;exact g1 h,o,ho,fun e he hb=>⟨(g2 e he hb).1,List.mem_cons_of_mem _ (g2 e he hb).2⟩⟩
    have hux:fu d (aF x.op)=false:=p3.resolve_right fun he=>g1 (edge he h2)
    have h3:=(eZ (List.ne_nil_of_mem hj2)).1 h j hj2
    rw[cr hx,qL p1 p2 hux] at h3
    rw[cr hx]
    refine Eq.mp (mO p1 fun w M'=>?_) h3
    rw[lE m (j::q::done) (q::j::done) fun i=>by simp only[List.mem_cons];exact⟨fun h=>by rcases h with h|h|h<;>simp[h],fun h=>by rcases h with h|h|h<;>simp[h]⟩]
    refine propext (ih (j::done) (b8 fr x.dst w) M' u hq2 ?_).symm
    rw[<-hu]
    congr 1
    cases hxd:x.dst with
    |none=>rfl
    |some e2=>
     have:fu e2 (aF o.op)=false:=(p4 e2 hxd).resolve_right fun he=>h1 (edge he g2)
     exact kE this
theorem tS {qs:List Nat} (hqs:qs.all (EZ all)=true):∀(n:Nat) (done:List Nat),pE P tt dm all qs K n done=be P tt dm all K n done
 |0,done=>by
  funext fr M
  rw[pE,be]
  cases cI all done<;>rfl
 |n+1,done=>by
  funext fr M
  have e:∀j,pE P tt dm all qs K n (j::done)=be P tt dm all K n (j::done):=fun j=>tS hqs n _
  rw[pE]
  simp only[e]
  cases hr:cI all done with
  |nil=>rw[be,hr]
  |cons i l=>
   have hk:be P tt dm all K (n+1) done fr M=oq (i::l) fun j=>Al P tt dm all j fr M (be P tt dm all K n (j::done)):=by rw[be,hr]
   simp only
   cases hf:xj qs (i::l) with
   |none=>exact hk.symm
   |some q=>
    simp only
    obtain⟨h1,h2⟩:=pF hf
    have hok:=List.all_eq_true.1 hqs q h1
    rw[<-hk]
    unfold Qt
    cases ho:all[q]? with
    |none=>rfl
    |some o=>
     simp only[fA]
     cases hu:uq tt o.op ((aF o.op).map (cC fr)) with
     |val u=>
      simp only[bH,eU]
      have hok':=hok
      unfold EZ at hok'
      rw[ho] at hok'
      cases hd:o.dst with
      |none=>simp only[hd] at hok';cases hok'
      |some d=>exact propext (Lg hok ho hd n done fr M u (by rw[hr];exact h2) hu).symm
     |_=>rfl
end
theorem mP {P:Program} {tt:TT} {ops:List Oper} {fr:List AV} {M:ac} {K:List AV->ac->Prop} (qs:List Nat) (hqs:qs.all (EZ ops)=true) (h:pE P tt (some .own) ops qs K ops.length [] fr M):gx P tt ops fr M K:=
 o9 (by rw[tS hqs] at h;exact h)
theorem mQ {P:Program} {tt:TT} {ops:List Oper} {fr:List AV} {M:ac} {K:List AV->ac->Prop} (qs:List Nat) (hqs:qs.all (EZ ops)=true) (h:pE P tt none ops qs K ops.length [] fr M):gx P tt ops fr M K:=
 P1 (by rw[tS hqs] at h;exact h)
end Go.Proofs.YtekmminpfhacpaaGreatDoor
