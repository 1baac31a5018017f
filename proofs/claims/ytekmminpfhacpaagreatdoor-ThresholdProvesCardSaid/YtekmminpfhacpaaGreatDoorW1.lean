import Derived.Test.YtekmminpfhacpaaGreatDoorFtE
import Derived.Test.YtekmminpfhacpaaGreatDoorV1
set_option linter.unusedVariables false
set_option linter.unusedSimpArgs false
namespace Go.Proofs.YtekmminpfhacpaaGreatDoor
set_option maxRecDepth 100000
def io (k:Int×Int):Value:=.agg #[.int .i64 k.1, .int .i64 k.2]
theorem mJ:q8 Tryz.prog 157 io:=by
 have ht:Tryz.prog.underlying 3=some (.int .i64):=Tryz.underlying3
 have hta:=Tryz.underlying157
 have hag:∀w,(isAgg 3).run Tryz.prog w= .ok false w:=fun w=>by simp[isAgg,run_underlying ht]
 have hsz:∀w,(Go.sizeOf 3).run Tryz.prog w= .ok 1 w:=fun w=>by
  obtain⟨i,hi⟩:∃i,tt.find 3=some i:=⟨_,rfl⟩
  have:=TOk.size ab hi w
  cases hi
  exact this
 refine q8.ask Tryz.underlying157 ?_ ?_ ?_ ?_ ?_
 ·rintro⟨a,b⟩ ⟨c,d⟩ h
  simpa[io] using h
 ·rintro e ⟨a,b⟩ w
  have h4:∀n w,(Instr.checkKey e (n+2) 157 (io (a,b))).run Tryz.prog w= .ok () w:=fun n w=>by
   simp[Instr.checkKey,run_underlying hta,run_underlying ht,io,part,hag,hsz,Std.Legacy.Range.forIn_eq_forIn_range',List.range',List.forIn_cons,List.forIn_nil]
  exact h4 9998 w
 ·intro a b;rfl
 ·rintro⟨a,b⟩ ⟨c,d⟩ w
  refine⟨decide (a=c/\b=d),?_,by simp[io]⟩
  have hI:∀n w (x y:Int),(Op.equalIn (n+1) 3 (.int .i64 x) (.int .i64 y)).run Tryz.prog w= .ok (x==y) w:=fun n w x y=>by
   rw[Op.equalIn]
   simp[run_underlying ht]
  have h4:∀n w,(Op.equalIn (n+2) 157 (io (a,b)) (io (c,d))).run Tryz.prog w= .ok (decide (a=c/\b=d)) w:=fun n w=>by
   rw[Op.equalIn]
   simp only[Sem.run_bind,run_underlying hta,Result.andThen_ok,io]
   simp[part,hag,hsz,hI,Std.Legacy.Range.forIn_eq_forIn_range',List.range',List.forIn_cons,List.forIn_nil]
   by_cases h1:a=c<;>by_cases h2:b=d<;>simp[h1,h2]
  exact h4 9998 w
 ·rintro⟨a,b⟩
  have h4:∀n,Instr.sameBits (n+1) (io (a,b)) (io (a,b))=true:=fun n=>by simp[io,Instr.sameBits]
  exact h4 9999
set_option maxHeartbeats 16000000
theorem aj.idn {P:Program} {f:FuncId} {args:List AV} {L0 L:List (Nat×bf)} {u0:AV} (hb:(fA (lV L) L&&eG L (lV L)&&ve (lV L) (L0.map (·.1)))=true) (hu:oW (lV L) 400 u0 u0)
  (h:aj P f args (ag.ofL L0) (fun u M=>u=u0/\bG (lV L) 400 M L)):aj P f args (ag.ofL L0) (fun u M=>u=u0/\M=ag.ofL L):=
 h.norm 400 fun u M' ⟨e,hM⟩=>⟨L,u0,hb,hM,by rw[e];exact hu,rfl,rfl⟩
abbrev KV (p:av) (q:aP) (sch:List Int) (n lr nr:Nat):List AV:=[.pd (fE p q), .sl 0 al sch, .int .i64 n, .mp 210, .mp 211, .mp 212, .mp 213, .mp 214, .mp 215, .mp 216, .row lr nr 2]
noncomputable abbrev gR (vars:List Vb) (k:Int):bf:=.map io (Value.int .i64) (qy vars k vars.length)
noncomputable abbrev fT (p:av) (q:aP) (sch:List Int) (vars:List Vb) (rows:List aV):List (Nat×bf):=
 [(200, .box 156 (KV p q sch vars.length 201 rows.length)),(201, .row 161 ar aw rows),(210,gR vars 0),(211,gR vars 1),(212,gR vars 2),(213,gR vars 3),(214,gR vars 4),(215,gR vars 5),(216,gR vars 6)]
noncomputable abbrev fF (p:av) (q:aP) (sch:List Int) (vars:List Vb) (rows:List aV) (co:Co) (c:Int):List (Nat×bf):=
 [(200, .box 156 (KV p q sch vars.length 201 rows.length)),(201, .row 161 ar aw rows),(210,gR vars 0),(211,gR vars 1),(212,gR vars 2),(213,gR vars 3),(214,gR vars 4),(215,gR vars 5),(216,gR vars 6),
  (220, .box 161 [.row 221 vars.length 1, .int .i64 c]),(221, .row 3 0 al (vars.map co))]
def pY:bc:=[(200, .old 200),(201, .old 201),(210, .old 210),(211, .old 211),(212, .old 212),(213, .old 213),(214, .old 214),(215, .old 215),(216, .old 216),(220, .old 220),(221, .old 221)]
def ko (X:Int) (co:Co):Prop:=∀v,-X<=co v/\co v<=X
theorem BB (p:av) (q:aP) (sch:List Int) (vars:List Vb) (rows:List aV) (co:Co) (c:Int) (hn:vars.Nodup) (hv:vars.length<=1000000) (kind:Nat) (hk:kind<7) (seg idx k:Int) (hb:ko 1152921504606846976 co) (hf:-1152921504606846976<=k/\k<=1152921504606846976):
  aj Tryz.prog 195 [.ptr 200 0, .ptr 220 0, .int .i64 k, .int .i64 (kind:Int), .int .i64 seg, .int .i64 idx] (ag.ofL (fF p q sch vars rows co c))
   (fun u M=>u= .tup []/\M=ag.ofL (fF p q sch vars rows (fq co ⟨kind,seg,idx⟩ k) c)):=by
 have hs:∀b,qy vars kind vars.length (seg,idx)=some b->∃m:Nat,b=m/\m<vars.length/\(vars.map co).set m ((vars.map co).getD m 0+k)=vars.map (fq co ⟨kind,seg,idx⟩ k):=by
  intro b h
  obtain⟨m,rfl,hm,e⟩:=tM h
  refine⟨m,rfl,hm,?_⟩
  rw[df co hm,JI co k hn hm,e]
 have hno:qy vars kind vars.length (seg,idx)=none->vars.map co=vars.map (fq co ⟨kind,seg,idx⟩ k):=fun h=>(Gs co k (Ep h)).symm
 have hg:∀m,m<vars.length->-1152921504606846976<=(vars.map co).getD m 0/\(vars.map co).getD m 0<=1152921504606846976:=fun m hm=>by rw[df co hm];exact hb _
 have hl:(vars.map co).length=vars.length:=List.length_map ..
 refine aj.idn rfl trivial ?_
 generalize hA:vars.map co=A at hs hno hg hl
 generalize hB:vars.map (fq co ⟨kind,seg,idx⟩ k)=B at hs hno
 have eA:fF p q sch vars rows co c=[(200, .box 156 (KV p q sch vars.length 201 rows.length)),(201, .row 161 ar aw rows),(210,gR vars 0),(211,gR vars 1),(212,gR vars 2),(213,gR vars 3),(214,gR vars 4),(215,gR vars 5),(216,gR vars 6),
  (220, .box 161 [.row 221 vars.length 1, .int .i64 c]),(221, .row 3 0 al A)]:=by unfold fF;rw[hA]
 have eB:fF p q sch vars rows (fq co ⟨kind,seg,idx⟩ k) c=[(200, .box 156 (KV p q sch vars.length 201 rows.length)),(201, .row 161 ar aw rows),(210,gR vars 0),(211,gR vars 1),(212,gR vars 2),(213,gR vars 3),(214,gR vars 4),(215,gR vars 5),(216,gR vars 6),
  (220, .box 161 [.row 221 vars.length 1, .int .i64 c]),(221, .row 3 0 al B)]:=by unfold fF;rw[hB]
 rw[eA,eB]
 clear eA eB hA hB hb
 obtain rfl|rfl|rfl|rfl|rfl|rfl|rfl:kind=0\/kind=1\/kind=2\/kind=3\/kind=4\/kind=5\/kind=6:=by omega
 all_goals
  refine aj.intro ab ac [(200, .box 156 (KV p q sch vars.length 201 rows.length)),(201, .row 161 ar aw rows),(210,gR vars 0),(211,gR vars 1),(212,gR vars 2),(213,gR vars 3),(214,gR vars 4),(215,gR vars 5),(216,gR vars 6),
  (220, .box 161 [.row 221 vars.length 1, .int .i64 c]),(221, .row 3 0 al A)] Tryz.func195 rfl (by decide) ?_
  (conv=>whnf)
  refine bg (by decide) ?_
  (conv=>whnf)
  refine NN mJ (seg,idx) rfl (fun b hb=>?_) (fun hb=>?_)<;>(conv=>whnf)
  ·obtain⟨m,rfl,hm,e⟩:=hs b hb
   have h1:=hg m hm
   have h2:-1152921504606846976<=A.getD (m:Int).toNat 0/\A.getD (m:Int).toNat 0<=1152921504606846976:=by rw[tN];exact h1
   subst e
   repeat' first|refine dt ?_;conv=>whnf|fail
   refine ak (A.getD (m:Int).toNat 0+k) rfl ?_
   (conv=>whnf)
   exact⟨rfl,(aa)⟩
  ·have e:=hno hb
   subst e
   exact⟨rfl,(aa)⟩
theorem J2 (p:av) (q:aP) (sch:List Int) (vars:List Vb) (rows:List aV) (co:Co) (c:Int) (hn:vars.Nodup) (hv:vars.length<=1000000) (kind:Int) (hk:0<=kind/\kind<7) (seg idx k:Int) (hb:ko 1152921504606846976 co) (hf:-1152921504606846976<=k/\k<=1152921504606846976):
  aj Tryz.prog 195 [.ptr 200 0, .ptr 220 0, .int .i64 k, .int .i64 kind, .int .i64 seg, .int .i64 idx] (ag.ofL (fF p q sch vars rows co c))
   (fun u M=>u= .tup []/\M=ag.ofL (fF p q sch vars rows (fq co ⟨kind,seg,idx⟩ k) c)):=by
 obtain⟨n,rfl⟩:∃n:Nat,kind=n:=⟨kind.toNat,by omega⟩
 exact BB p q sch vars rows co c hn hv n (by omega) seg idx k hb hf
theorem r6 {X:Int} {co:Co} (h:ko X co) (v0:Vb) {k Y:Int} (hk:-Y<=k/\k<=Y) (hY:0<=Y):ko (X+Y) (fq co v0 k):=fun v=>by
 unfold fq
 have:=h v
 split<;>omega
theorem aF {X Y:Int} {co:Co} (h:ko X co) (hX:X<=Y):ko Y co:=fun v=>by
 have:=h v
 omega
theorem r7 {k a:Int} (hk:cd k) (ha:cd a):-10000<=k*a/\k*a<=10000:=xb hk ha
theorem EG (p:av) (q:aP) (sch:List Int) (vars:List Vb) (rows:List aV) (co:Co) (c:Int) (hn:vars.Nodup) (hv:vars.length<=1000000) (k:Int) (l:lp) (hb:ko 1099511627776 co) (hc:-1099511627776<=c/\c<=1099511627776) (hk:cd k) (hl:eY l):
  aj Tryz.prog 194 [.ptr 200 0, .ptr 220 0, .int .i64 k, .agg (cq l)] (ag.ofL (fF p q sch vars rows co c))
   (fun u M=>u= .tup []/\M=ag.ofL (fF p q sch vars rows (bo co k (bH l)) (c+k*l.c))):=by
 obtain⟨lc,ln,lt,lf⟩:=hl
 have b0:=r7 hk lc
 have b1:=r7 hk ln
 have b2:=r7 hk lt
 have b3:=r7 hk lf
 have e1:=r6 hb ⟨0,0,0⟩ (k:=k*l.n) (Y:=10000) (by omega) (by omega)
 have e2:=r6 e1 ⟨1,0,0⟩ (k:=k*l.t) (Y:=10000) (by omega) (by omega)
 have a1:=J2 p q sch vars rows co c hn hv 0 (by omega) 0 0 (k*l.n) (aF hb (by omega)) (by omega)
 have a2:=J2 p q sch vars rows _ c hn hv 1 (by omega) 0 0 (k*l.t) (aF e1 (by omega)) (by omega)
 have a3:=J2 p q sch vars rows _ c hn hv 2 (by omega) 0 0 (k*l.f) (aF e2 (by omega)) (by omega)
 rw[JL] at a3
 generalize fq co ⟨0,0,0⟩ (k*l.n)=d1 at*
 generalize fq d1 ⟨1,0,0⟩ (k*l.t)=d2 at*
 refine aj.idn rfl trivial ?_
 refine aj.intro ab ac (fF p q sch vars rows co c) Tryz.func194 rfl (by decide) ?_
 simp only[eJ]
 rw[show Tryz.f194.ntmps=40 from rfl]
 simp only[bX]
 simp only[cF]
 rw[be]
 simp only[gv,aG,List.map_cons,List.map_nil,aZ]
 conv=>whnf
 refine au rfl ?_
 conv=>whnf
 repeat' first|refine dt ?_;conv=>whnf|fail
 refine aj.call pY (fF p q sch vars rows co c) 400 rfl (aa) (aa) a1 ?_
 rintro u M' ⟨rfl,rfl⟩
 refine⟨pY,fF p q sch vars rows d1 c, .tup [],rfl,(aa),trivial,?_⟩
 conv=>whnf
 repeat' first|refine dt ?_;conv=>whnf|fail
 refine aj.call pY (fF p q sch vars rows d1 c) 400 rfl (aa) (aa) a2 ?_
 rintro u M' ⟨rfl,rfl⟩
 refine⟨pY,fF p q sch vars rows d2 c, .tup [],rfl,(aa),trivial,?_⟩
 conv=>whnf
 repeat' first|refine dt ?_;conv=>whnf|fail
 refine aj.call pY (fF p q sch vars rows d2 c) 400 rfl (aa) (aa) a3 ?_
 rintro u M' ⟨rfl,rfl⟩
 refine⟨pY,fF p q sch vars rows (bo co k (bH l)) c, .tup [],rfl,(aa),trivial,?_⟩
 conv=>whnf
 refine F3 rfl ?_
 conv=>whnf
 repeat' first|refine dt ?_;conv=>whnf|fail
 exact⟨rfl,(aa)⟩
theorem G4 (rs:List cf) (start fire state:Int) (co:Co) (k:Int):fq co ⟨start,0,state⟩ k=bo co k (dE rs start fire state 0 0):=by
 funext v
 have h:¬fY rs.length fire (0:Nat) 0 v:=by unfold fY;omega
 unfold fq bo dE
 rw[if_neg h]
 by_cases e:v=⟨start,0,state⟩
 ·rw[if_pos e,if_pos e];omega
 ·rw[if_neg e,if_neg e];omega
theorem G5 (rs:List cf) (fire message:Int) (co:Co) (k:Int):bo co k (c7 rs fire message 0 0)=co:=by
 funext v
 have h:¬(fY rs.length fire (0:Nat) 0 v/\message∈(rs.getD v.idx.toNat ax).send):=by unfold fY;omega
 unfold bo c7
 rw[if_neg h];omega
theorem ic {X:Int} {co d:Co} {k:Int} (h:ko X co) (hk:cd k) (hd:∀v,-2<=d v/\d v<=2):ko (X+200) (bo co k d):=fun v=>by
 have a:=h v
 have b:-(100*2)<=k*d v/\k*d v<=100*2:=xb hk (hd v)
 unfold bo
 omega
theorem CT (p:av) (q:aP) (sch:List Int) (vars:List Vb) (rows:List aV) (co:Co) (c:Int) (hn:vars.Nodup) (hv:vars.length<=1000000) (k state:Int) (start fire seg:Nat) (hst:start<7) (hfi:fire<7) (hsg:seg<=10) (hr:p.rules.length<=1000) (hb:ko 1099511627776 co) (hk:cd k):
  aj Tryz.prog 197 [.ptr 200 0, .ptr 220 0, .int .i64 k, .int .i64 (start:Int), .int .i64 (fire:Int), .int .i64 state, .int .i64 (seg:Int)] (ag.ofL (fF p q sch vars rows co c))
   (fun u M=>u= .tup []/\M=ag.ofL (fF p q sch vars rows (bo co k (dE p.rules start fire state (seg+1) 0)) c)):=by
 have hkb:-100<=k/\k<=100:=hk
 have a0:=BB p q sch vars rows co c hn hv start hst 0 state k (aF hb (by omega)) (by omega)
 rw[G4 p.rules start fire state] at a0
 have hFb:∀j i,ko 1099511627976 (bo co k (dE p.rules start fire state j i)):=fun j i=>ic hb hk fun v=>by have:=Gt p.rules start fire state j i v;omega
 have hFn:=fun j i=>Gw p.rules start fire state j i co k
 have hFe:=fun j=>congrArg (bo co k) (JJ p.rules start fire state j)
 obtain⟨F,hF⟩:∃F:Nat->Nat->Co,F=fun j i=>bo co k (dE p.rules start fire state j i):=⟨_,rfl⟩
 have e0:∀j i,bo co k (dE p.rules start fire state j i)=F j i:=fun j i=>by rw[hF]
 simp only[e0] at a0 hFb hFn hFe
 rw[e0]
 clear e0 hF
 refine aj.idn rfl trivial ?_
 refine aj.intro ab ac (fF p q sch vars rows co c) Tryz.func197 rfl (by decide) ?_
 conv=>whnf
 refine aj.call pY (fF p q sch vars rows co c) 400 rfl (aa) (aa) a0 ?_
 rintro u M' ⟨rfl,rfl⟩
 refine⟨pY,fF p q sch vars rows (F 0 0) c, .tup [],rfl,(aa),trivial,?_⟩
 conv=>whnf
 repeat' first|refine dt ?_;conv=>whnf|fail
 refine aJ.loopF ab ac (fun j:Nat=>j<=seg+1) (fun j=>[(25, .int .i64 (j:Int))]) (fun j=>fF p q sch vars rows (F j 0) c) (fun j=>seg+1-j) 0 (Nat.zero_le _) ?_;conv=>whnf
 refine⟨aH.by_ pY _ 400 rfl (aa) (aa),?_⟩
 rintro j hj
 conv=>whnf
 refine ae ?_ ?_<;>(intro h1;conv=>whnf)
 ·repeat' first|refine dt ?_;conv=>whnf|fail
  refine aJ.loopF ab ac (fun i:Nat=>i<=p.rules.length) (fun i=>[(37, .int .i64 (i:Int))]) (fun i=>fF p q sch vars rows (F j i) c) (fun i=>p.rules.length-i) 0 (Nat.zero_le _) ?_;conv=>whnf
  refine⟨aH.by_ pY _ 400 rfl (aa) (aa),?_⟩
  rintro i hi
  conv=>whnf
  refine ae ?_ ?_<;>(intro h2;conv=>whnf)
  ·have hlt:i<p.rules.length:=by omega
   have hs:=hFn j i
   unfold Gv at hs
   dsimp only at hs
   repeat' first|refine dt ?_;conv=>whnf|fail
   refine ae ?_ ?_<;>(intro h3;conv=>whnf)
   ·rw[tN] at h3;rw[if_pos h3] at hs
    have a1:=BB p q sch vars rows (F j i) c hn hv fire hfi j i k (aF (hFb j i) (by omega)) (by omega)
    have hG:=r6 (hFb j i) ⟨fire,j,i⟩ (k:=k) (Y:=100) hkb (by omega)
    generalize fq (F j i) ⟨fire,j,i⟩ k=G at a1 hs hG
    repeat' first|refine dt ?_;conv=>whnf|fail
    refine aj.call pY (fF p q sch vars rows (F j i) c) 400 rfl (aa) (aa) a1 ?_
    rintro u M' ⟨rfl,rfl⟩
    refine⟨pY,fF p q sch vars rows G c, .tup [],rfl,(aa),trivial,?_⟩
    conv=>whnf
    repeat' first|refine dt ?_;conv=>whnf|fail
    refine ae ?_ ?_<;>(intro h4;conv=>whnf)
    ·rw[tN] at h4;rw[if_pos h4] at hs
     have a2:=BB p q sch vars rows G c hn hv fire hfi j i (-k) (aF hG (by omega)) (by omega)
     rw[<-hs] at a2
     repeat' first|refine dt ?_;conv=>whnf|fail
     refine aj.call pY (fF p q sch vars rows G c) 400 rfl (aa) (aa) a2 ?_
     rintro u M' ⟨rfl,rfl⟩
     refine⟨pY,fF p q sch vars rows (F j (i+1)) c, .tup [],rfl,(aa),trivial,?_⟩
     conv=>whnf
     repeat' first|refine dt ?_;conv=>whnf|fail
     refine⟨i+1,?_,by omega,by dsimp only;omega⟩
     exact aH.by_ pY _ 400 rfl (aa) (aa)
    ·rw[tN] at h4;rw[if_neg h4] at hs
     repeat' first|refine dt ?_;conv=>whnf|fail
     refine⟨i+1,?_,by omega,by dsimp only;omega⟩
     dsimp only
     rw[hs]
     exact aH.by_ pY _ 400 rfl (aa) (aa)
   ·rw[tN] at h3;rw[if_neg h3] at hs
    repeat' first|refine dt ?_;conv=>whnf|fail
    refine ae ?_ ?_<;>(intro h4;conv=>whnf)
    ·rw[tN] at h4;rw[if_pos h4] at hs
     have a2:=BB p q sch vars rows (F j i) c hn hv fire hfi j i (-k) (aF (hFb j i) (by omega)) (by omega)
     rw[<-hs] at a2
     repeat' first|refine dt ?_;conv=>whnf|fail
     refine aj.call pY (fF p q sch vars rows (F j i) c) 400 rfl (aa) (aa) a2 ?_
     rintro u M' ⟨rfl,rfl⟩
     refine⟨pY,fF p q sch vars rows (F j (i+1)) c, .tup [],rfl,(aa),trivial,?_⟩
     conv=>whnf
     repeat' first|refine dt ?_;conv=>whnf|fail
     refine⟨i+1,?_,by omega,by dsimp only;omega⟩
     exact aH.by_ pY _ 400 rfl (aa) (aa)
    ·rw[tN] at h4;rw[if_neg h4] at hs
     repeat' first|refine dt ?_;conv=>whnf|fail
     refine⟨i+1,?_,by omega,by dsimp only;omega⟩
     dsimp only
     rw[hs]
     exact aH.by_ pY _ 400 rfl (aa) (aa)
  ·repeat' first|refine dt ?_;conv=>whnf|fail
   refine⟨j+1,?_,by omega,by dsimp only;omega⟩
   obtain rfl:i=p.rules.length:=by omega
   dsimp only
   rw[<-hFe j]
   exact aH.by_ pY _ 400 rfl (aa) (aa)
 ·obtain rfl:j=seg+1:=by omega
  exact⟨rfl,(aa)⟩
theorem CU (p:av) (q:aP) (sch:List Int) (vars:List Vb) (rows:List aV) (co:Co) (c:Int) (hn:vars.Nodup) (hv:vars.length<=1000000) (k message:Int) (fire seg:Nat) (hfi:fire<7) (hsg:seg<=10) (hr:p.rules.length<=1000) (hsd:∀i,i<p.rules.length->(p.rules.getD i ax).send.length<=1000000) (hb:ko 1099511627776 co) (hk:cd k):
  aj Tryz.prog 196 [.ptr 200 0, .ptr 220 0, .int .i64 k, .int .i64 (fire:Int), .int .i64 message, .int .i64 (seg:Int)] (ag.ofL (fF p q sch vars rows co c))
   (fun u M=>u= .tup []/\M=ag.ofL (fF p q sch vars rows (bo co k (c7 p.rules fire message seg 0)) c)):=by
 have hkb:-100<=k/\k<=100:=hk
 have hF0:=G5 p.rules fire message co k
 have hFb:∀j i,ko 1099511627976 (bo co k (c7 p.rules fire message j i)):=fun j i=>ic hb hk fun v=>by have:=vP p.rules fire message j i v;omega
 have hFn:=fun j i=>Gu p.rules fire message j i co k
 have hFe:=fun j=>congrArg (bo co k) (JK p.rules fire message j)
 obtain⟨F,hF⟩:∃F:Nat->Nat->Co,F=fun j i=>bo co k (c7 p.rules fire message j i):=⟨_,rfl⟩
 have e0:∀j i,bo co k (c7 p.rules fire message j i)=F j i:=fun j i=>by rw[hF]
 simp only[e0] at hF0 hFb hFn hFe
 rw[e0]
 clear e0 hF
 subst hF0
 refine aj.idn rfl trivial ?_
 refine aj.intro ab ac (fF p q sch vars rows (F 0 0) c) Tryz.func196 rfl (by decide) ?_
 conv=>whnf
 refine aJ.loopF ab ac (fun j:Nat=>j<=seg) (fun j=>[(16, .int .i64 (j:Int))]) (fun j=>fF p q sch vars rows (F j 0) c) (fun j=>seg-j) 0 (Nat.zero_le _) ?_;conv=>whnf
 refine⟨aH.by_ pY _ 400 rfl (aa) (aa),?_⟩
 rintro j hj
 conv=>whnf
 refine ae ?_ ?_<;>(intro h1;conv=>whnf)
 ·repeat' first|refine dt ?_;conv=>whnf|fail
  refine aJ.loopF ab ac (fun i:Nat=>i<=p.rules.length) (fun i=>[(28, .int .i64 (i:Int))]) (fun i=>fF p q sch vars rows (F j i) c) (fun i=>p.rules.length-i) 0 (Nat.zero_le _) ?_;conv=>whnf
  refine⟨aH.by_ pY _ 400 rfl (aa) (aa),?_⟩
  rintro i hi
  conv=>whnf
  refine ae ?_ ?_<;>(intro h2;conv=>whnf)
  ·have hlt:i<p.rules.length:=by omega
   have hs:=hFn j i
   repeat' first|refine dt ?_;conv=>whnf|fail
   refine dC (dB (p.rules.getD i ax).send message (Nat.le_trans (hsd i hlt) (by omega))) (fun _=>?_) (fun _=>?_)<;>(conv=>whnf)
   ·rename_i h3
    rw[if_pos h3] at hs
    have a1:=BB p q sch vars rows (F j i) c hn hv fire hfi j i k (aF (hFb j i) (by omega)) (by omega)
    rw[<-hs] at a1
    repeat' first|refine dt ?_;conv=>whnf|fail
    refine aj.call pY (fF p q sch vars rows (F j i) c) 400 rfl (aa) (aa) a1 ?_
    rintro u M' ⟨rfl,rfl⟩
    refine⟨pY,fF p q sch vars rows (F j (i+1)) c, .tup [],rfl,(aa),trivial,?_⟩
    conv=>whnf
    repeat' first|refine dt ?_;conv=>whnf|fail
    refine⟨i+1,?_,by omega,by dsimp only;omega⟩
    exact aH.by_ pY _ 400 rfl (aa) (aa)
   ·rename_i h3
    rw[if_neg h3] at hs
    repeat' first|refine dt ?_;conv=>whnf|fail
    refine⟨i+1,?_,by omega,by dsimp only;omega⟩
    dsimp only
    rw[hs]
    exact aH.by_ pY _ 400 rfl (aa) (aa)
  ·repeat' first|refine dt ?_;conv=>whnf|fail
   refine⟨j+1,?_,by omega,by dsimp only;omega⟩
   obtain rfl:i=p.rules.length:=by omega
   dsimp only
   rw[<-hFe j]
   exact aH.by_ pY _ 400 rfl (aa) (aa)
 ·obtain rfl:j=seg:=by omega
  exact⟨rfl,(aa)⟩
def gS:bc:=[(200, .old 200),(201, .old 201),(210, .old 210),(211, .old 211),(212, .old 212),(213, .old 213),(214, .old 214),(215, .old 215),(216, .old 216)]
noncomputable abbrev px (p:av) (q:aP) (sch:List Int) (vars:List Vb) (rows:List aV):List (Nat×bf):=
 [(200, .box 156 (KV p q sch vars.length 202 rows.length)),(201, .dead),(202, .row 161 ar aw rows),(210,gR vars 0),(211,gR vars 1),(212,gR vars 2),(213,gR vars 3),(214,gR vars 4),(215,gR vars 5),(216,gR vars 6)]
theorem py (vars:List Vb):List.replicate vars.length (0:Int)=vars.map zC:=by
 apply List.ext_getElem
 ·simp
 ·intro i h1 h2;simp[zC]
theorem BC (p:av) (q:aP) (sch:List Int) (vars:List Vb) (rows:List aV) (hv:vars.length<=1000000):
  aj Tryz.prog 193 [.ptr 200 0] (ag.ofL (fT p q sch vars rows))
   (fun u M=>u= .agg [.row 221 vars.length 1, .int .i64 0]/\M=ag.ofL (fT p q sch vars rows++[(221, .row 3 0 al (vars.map zC))])):=by
 rw[<-py]
 refine aj.renorm 400 (R:=fun u M=>u= .agg [.row 7 vars.length 1, .int .i64 0]/\bG (gS++[(221, .old 7)]) 400 M (fT p q sch vars rows++[(221, .row 3 0 al (List.replicate vars.length (0:Int)))])) ?_ ?_
 case refine_2=>
  rintro u M ⟨rfl,hM⟩
  exact⟨gS++[(221, .old 7)],_,_,rfl,hM,(aa),rfl,rfl⟩
 refine aj.intro ab ac (fT p q sch vars rows) Tryz.func193 rfl (by decide) ?_
 conv=>whnf
 refine x7 0 al 0 rfl (by dsimp only;omega) ?_
 conv=>whnf
 exact⟨rfl,(aa)⟩
theorem PU (p:av) (q:aP) (sch:List Int) (vars:List Vb) (rows:List aV) (hn:vars.Nodup) (hv:vars.length<=1000000) (hr:rows.length<=1000000) (l:lp) (hl:eY l):
  aj Tryz.prog 106 [.ptr 200 0, .agg (cq l)] (ag.ofL (fT p q sch vars rows))
   (fun u M=>u= .tup []/\M=ag.ofL (px p q sch vars (rows++[aQ vars (qz l)]))):=by
 have hz:ko 1099511627776 zC:=fun v=>by unfold zC;omega
 have a1:=EG p q sch vars rows zC 0 hn hv 1 l hz (by omega) (by unfold cd;omega) hl
 have e1:bo zC 1 (bH l)=bH l:=by funext v;unfold bo zC;omega
 have e2:0+1*l.c=l.c:=by omega
 rw[e1,e2] at a1
 refine aj.renorm 400 (R:=fun u M=>u= .tup []/\bG ((202, .old 17)::gS) 400 M (px p q sch vars (rows++[aQ vars (qz l)]))) ?_ ?_
 case refine_2=>
  rintro u M ⟨rfl,hM⟩
  exact⟨(202, .old 17)::gS,_, .tup [],rfl,hM,trivial,rfl,rfl⟩
 refine aj.intro ab ac (fT p q sch vars rows) Tryz.func106 rfl (by decide) ?_
 simp only[eJ]
 rw[show Tryz.f106.ntmps=20 from rfl]
 simp only[bX]
 simp only[cF]
 rw[be]
 simp only[gv,aG,List.map_cons,List.map_nil,aZ]
 conv=>whnf
 refine au rfl ?_
 conv=>whnf
 refine aj.call gS (fT p q sch vars rows) 400 rfl (aa) (aa) (BC p q sch vars rows hv) ?_
 rintro u M' ⟨rfl,rfl⟩
 refine⟨gS++[(221, .old 221)],fT p q sch vars rows++[(221, .row 3 0 al (vars.map zC))], .agg [.row 221 vars.length 1, .int .i64 0],rfl,(aa),(aa),?_⟩
 conv=>whnf
 refine aj.call (gS++[(220, .old 4),(221, .old 221)]) (fF p q sch vars rows zC 0) 400 rfl (aa) (aa) a1 ?_
 rintro u M' ⟨rfl,rfl⟩
 refine⟨gS++[(4, .old 220),(221, .old 221)],fT p q sch vars rows++[(4, .box 161 [.row 221 vars.length 1, .int .i64 l.c]),(221, .row 3 0 al (vars.map (bH l)))], .tup [],rfl,(aa),trivial,?_⟩
 conv=>whnf
 refine nU ?_
 conv=>whnf
 repeat' first
  |exact True.intro
  |(refine And.intro ?_ ?_<;>conv=>whnf)
  |(refine bp ar aw [aQ vars (qz l)] rfl ?_;conv=>whnf)
  |(refine bU ?_;conv=>whnf)
  |(refine bq [aQ vars (qz l)] rfl lI ?_;conv=>whnf)
  |exact rfl
  |exact(List.length_append ..).symm
  |fail
def NC:Op->Bool
 |.move _| .fieldAddr _ _ _| .nilCheck _| .indexAddr _ _ _| .build _ _| .field _ _ _=>true
 |_=>false
def fO (d:Nat) (xs:List Operand):Bool:=xs.any fun x=>match x with
 |.tmp t=>Nat.beq t d
 |_=>false
def gT (x:Oper) (q:Nat):Bool:=x.after.toList.any fun e=>Region.binds .any e&&Nat.beq e.on q
def zt (d:Nat):Option Tmp->Bool
 |some e=>!(Nat.beq e d)
 |none=>true
def EH (all:List Oper) (q:Nat):Bool:=match all[q]? with
 |none=>false
 |some o=>match o.dst with
  |none=>false
  |some d=>NC o.op&&o.guard.isNone&&(List.range all.length).all fun j=>Nat.beq j q||match all[j]? with
   |none=>true
   |some x=>x.guard.isNone&&zt d x.dst&&(!(fO d (aG x.op))||gT x q)&&(match x.dst with|none=>true|some e=>!(fO e (aG o.op))||gT o j)
def xq:List Nat->List Nat->Option Nat
 |[],_=>none
 |q::qs,l=>match l.any (Nat.beq q) with
  |true=>some q
  |false=>xq qs l
def Ow (tt:TT) (all:List Oper) (q:Nat) (fr:List AV) (k1:List AV->Prop) (k2:Prop):Prop:=match all[q]? with
 |none=>k2
 |some o=>AP fr (aG o.op) fun us=>match uC tt o.op us with
  |.val u=>gX u fun u=>mf fr o.dst u k1
  |_=>k2
def pz (P:Program) (tt:TT) (d:Option aL) (all:List Oper) (qs:List Nat) (K:List AV->ag->Prop):Nat->List Nat->List AV->ag->Prop
 |0,done,fr,M=>match c6 all done with
  |[]=>K fr M
  |_::_=>False
 |n+1,done,fr,M=>match c6 all done with
  |[]=>K fr M
  |i::l=>match xq qs (i::l) with
   |none=>ob (i::l) fun j=>An P tt d all j fr M (pz P tt d all qs K n (j::done))
   |some q=>Ow tt all q fr (fun fr'=>pz P tt d all qs K n (q::done) fr' M) (ob (i::l) fun j=>An P tt d all j fr M (pz P tt d all qs K n (j::done)))
section
variable {P:Program} {tt:TT} {dm:Option aL} {all:List Oper} {K K':List AV->ag->Prop} {fr:List AV} {M:ag}
theorem pA:∀{qs l:List Nat} {q:Nat},xq qs l=some q->q∈qs/\q∈l
 |[],_,_,h=>by cases h
 |a::qs,l,q,h=>by
  rw[xq] at h
  split at h
  ·rename_i ha
   cases h
   exact⟨List.mem_cons_self,gr.1 ha⟩
  ·obtain⟨h1,h2⟩:=pA h
   exact⟨List.mem_cons_of_mem _ h1,h2⟩
theorem kB {d:Nat} {u:AV}:∀{xs:List Operand},fO d xs=false->xs.map (cY (fr.set d u))=xs.map (cY fr)
 |[],_=>rfl
 |x::xs,h=>by
  unfold fO at h
  rw[List.any_cons,Bool.or_eq_false_iff] at h
  rw[List.map_cons,List.map_cons,kB (xs:=xs) h.2]
  congr 1
  cases x with
  |tmp t=>
   have hne:t≠d:=fun e=>by subst e;simp at h
   simp only[cY,gD,List.getElem?_set_ne (Ne.symm hne)]
  |const v=>rfl
  |func f=>rfl
  |global g=>rfl
theorem qC {o:Oper} {d:Nat} {u:AV} (hg:o.guard=none) (hd:zt d o.dst=true) (hu:fO d (aG o.op)=false):b8 P tt dm all o (fr.set d u) M K=b8 P tt dm all o fr M fun fr' M'=>K (fr'.set d u) M':=by
 unfold b8 kY
 rw[hg]
 simp only[fS,fj]
 rw[kB hu]
 congr 1
 funext w M'
 congr 1
 cases hdst:o.dst with
 |none=>rfl
 |some e=>
  rw[hdst] at hd
  have hne:e≠d:=fun h=>by subst h;simp[zt] at hd
  simp only[cA]
  exact List.set_comm _ _ (Ne.symm hne)
theorem mK {o:Oper} (hg:o.guard=none) (h:∀w M',K (cA fr o.dst w) M'=K' (cA fr o.dst w) M'):b8 P tt dm all o fr M K=b8 P tt dm all o fr M K':=by
 unfold b8 kY
 rw[hg]
 simp only[fS,fj,h]
theorem pB {o:Oper} {d:Nat} {u:AV} (hg:o.guard=none) (hd:o.dst=some d) (hq:NC o.op=true) (hu:uC tt o.op ((aG o.op).map (cY fr))= .val u):b8 P tt dm all o fr M K=K (fr.set d u) M:=by
 have hs:∀us K',aZ P tt dm o us M K'=gY (uC tt o.op us) fun u=>K' u M:=fun us K'=>by
  unfold aZ
  unfold NC at hq
  split at hq
  all_goals first
   |(rename_i e;rw[e];cases dm with
     |none=>rfl
     |some r=>cases r<;>rfl)
   |exact absurd hq (by decide)
 unfold b8 kY
 rw[hg]
 simp only[fS,fj,hs,hu,hd,cA,gY,b7]
theorem zu {f:Nat->Prop}:∀{l:List Nat},ob l f↔∀i∈l,f i
 |[]=>by simp[ob]
 |i::l=>by rw[ob,zu];simp
theorem dc {done:List Nat} {i:Nat}:i∈c6 all done↔i∉done/\∃o,all[i]? =some o/\∀e∈o.after.toList,Region.binds .any e=true->e.on<all.length/\e.on∈done:=by
 unfold c6
 rw[List.mem_filter,List.mem_range]
 constructor
 ·rintro⟨h1,h2⟩
  rw[Bool.and_eq_true] at h2
  refine⟨fun h=>?_,?_⟩
  ·have:=h2.1;rw[gr.2 h] at this;cases this
  ·have h3:=h2.2
   cases ho:all[i]? with
   |none=>rw[ho] at h3;cases h3
   |some o=>
    rw[ho] at h3
    refine⟨o,rfl,fun e he hb=>?_⟩
    have:=List.all_eq_true.1 h3 e he
    rw[hb] at this
    simpa[gr] using this
 ·rintro⟨h1,o,ho,h2⟩
  have hlt:i<all.length:=by
   rcases Nat.lt_or_ge i all.length with h|h
   ·exact h
   ·rw[List.getElem?_eq_none h] at ho;cases ho
  refine⟨hlt,?_⟩
  rw[ho,Bool.and_eq_true]
  refine⟨?_,List.all_eq_true.2 fun e he=>?_⟩
  ·cases hh:done.any (Nat.beq i) with
   |true=>exact absurd (gr.1 hh) h1
   |false=>rfl
  ·cases hb:Region.binds .any e with
   |false=>rfl
   |true=>
    obtain⟨h3,h4⟩:=h2 e he hb
    have:done.any (Nat.beq e.on)=true:=gr.2 h4
    simp[h3,this]
theorem tY {d1 d2:List Nat} (h:∀i,i∈d1↔i∈d2):c6 all d1=c6 all d2:=by
 have e:∀i,d1.any (Nat.beq i)=d2.any (Nat.beq i):=fun i=>by
  rw[Bool.eq_iff_iff,gr,gr,h]
 unfold c6
 simp only[e]
theorem lz:∀(n:Nat) (d1 d2:List Nat) (_:∀i,i∈d1↔i∈d2),br P tt dm all K n d1=br P tt dm all K n d2
 |0,d1,d2,h=>by
  funext fr M
  rw[br,br,tY h]
 |n+1,d1,d2,h=>by
  funext fr M
  rw[br,br,tY h]
  cases c6 all d2 with
  |nil=>rfl
  |cons i l=>
   have e:∀j,br P tt dm all K n (j::d1)=br P tt dm all K n (j::d2):=fun j=>lz n _ _ fun i=>by rw[List.mem_cons,List.mem_cons,h]
   simp only[e]
theorem fv {n:Nat} {done:List Nat} (h:c6 all done≠[]):br P tt dm all K (n+1) done fr M↔∀j∈c6 all done,An P tt dm all j fr M (br P tt dm all K n (j::done)):=by
 rw[br]
 cases hr:c6 all done with
 |nil=>exact absurd hr h
 |cons i l=>exact zu
theorem cJ {j:Nat} {o:Oper} (h:all[j]? =some o):An P tt dm all j fr M K=b8 P tt dm all o fr M K:=by
 unfold An;rw[h]
theorem J3 {q:Nat} {o:Oper} {d:Nat} (hok:EH all q=true) (ho:all[q]? =some o) (hd:o.dst=some d):∀(n:Nat) (done:List Nat) (fr:List AV) (M:ag) (u:AV),q∈c6 all done->uC tt o.op ((aG o.op).map (cY fr))= .val u->
  (br P tt dm all K (n+1) done fr M↔br P tt dm all K n (q::done) (fr.set d u) M):=by
 unfold EH at hok
 rw[ho] at hok
 simp only[hd,Bool.and_eq_true,Option.isNone_iff_eq_none] at hok
 obtain⟨⟨hqt,hg⟩,hall⟩:=hok
 have hpair:∀j x,all[j]? =some x->j≠q->x.guard=none/\zt d x.dst=true/\(fO d (aG x.op)=false\/gT x q=true)/\∀e,x.dst=some e->fO e (aG o.op)=false\/gT o j=true:=fun j x hx hne=>by
  have hj:j<all.length:=by
   rcases Nat.lt_or_ge j all.length with h|h
   ·exact h
   ·rw[List.getElem?_eq_none h] at hx;cases hx
  have:=List.all_eq_true.1 hall j (List.mem_range.2 hj)
  rw[hx] at this
  have hb:Nat.beq j q=false:=by cases h:Nat.beq j q with|false=>rfl|true=>exact absurd (Nat.eq_of_beq_eq_true h) hne
  simp only[hb,Bool.false_or,Bool.and_eq_true,Option.isNone_iff_eq_none,Bool.or_eq_true,Bool.not_eq_true'] at this
  obtain⟨⟨⟨h1,h2⟩,h3⟩,h4⟩:=this
  refine⟨h1,h2,h3,fun e he=>?_⟩
  rw[he] at h4
  simpa using h4
 have edge:∀{x:Oper} {k:Nat} {done:List Nat},gT x k=true->(∀e∈x.after.toList,Region.binds .any e=true->e.on<all.length/\e.on∈done)->k∈done:=fun{x k done} he h=>by
  unfold gT at he
  obtain⟨e,hm,hb⟩:=List.any_eq_true.1 he
  rw[Bool.and_eq_true] at hb
  have:=(h e hm hb.1).2
  rwa [Nat.eq_of_beq_eq_true hb.2] at this
 intro n
 induction n with
 |zero=>
  intro done fr M u hq hu
  have hne:c6 all done≠[]:=List.ne_nil_of_mem hq
  rw[fv hne]
  constructor
  ·intro h
   have:=h q hq
   rw[cJ ho,pB hg hd hqt hu] at this
   exact this
  ·intro h j hj
   by_cases e:j=q
   ·subst e
    rw[cJ ho,pB hg hd hqt hu]
    exact h
   ·exfalso
    have hj2:j∈c6 all (q::done):=by
     rw[dc] at hj⊢
     obtain⟨h1,x,hx,h2⟩:=hj
     exact⟨fun h=>by rcases List.mem_cons.1 h with h|h;exact e h;exact h1 h,x,hx,fun e he hb=>⟨(h2 e he hb).1,List.mem_cons_of_mem _ (h2 e he hb).2⟩⟩
    rw[br] at h
    cases hr:c6 all (q::done) with
    |nil=>rw[hr] at hj2;cases hj2
    |cons a l=>rw[hr] at h;exact h
 |succ m ih=>
  intro done fr M u hq hu
  have hne:c6 all done≠[]:=List.ne_nil_of_mem hq
  rw[fv hne]
  constructor
  ·intro h
   have:=h q hq
   rw[cJ ho,pB hg hd hqt hu] at this
   exact this
  ·intro h j hj
   by_cases e:j=q
   ·subst e
    rw[cJ ho,pB hg hd hqt hu]
    exact h
   ·have hj':=dc.1 hj
    have hq':=dc.1 hq
    obtain⟨h1,x,hx,h2⟩:=hj'
    obtain⟨g1,o',ho',g2⟩:=hq'
    rw[ho] at ho';cases ho'
    obtain⟨p1,p2,p3,p4⟩:=hpair j x hx e
    have hj2:j∈c6 all (q::done):=dc.2 ⟨fun h=>by rcases List.mem_cons.1 h with h|h;exact e h;exact h1 h,x,hx,fun e he hb=>⟨(h2 e he hb).1,List.mem_cons_of_mem _ (h2 e he hb).2⟩⟩
    have hq2:q∈c6 all (j::done):=dc.2 ⟨fun h=>by rcases List.mem_cons.1 h with h|h;exact e h.symm;exact g1 h,o,ho,fun e he hb=>⟨(g2 e he hb).1,List.mem_cons_of_mem _ (g2 e he hb).2⟩⟩
    have hux:fO d (aG x.op)=false:=p3.resolve_right fun he=>g1 (edge he h2)
    have h3:=(fv (List.ne_nil_of_mem hj2)).1 h j hj2
    rw[cJ hx,qC p1 p2 hux] at h3
    rw[cJ hx]
    refine Eq.mp (mK p1 fun w M'=>?_) h3
    rw[lz m (j::q::done) (q::j::done) fun i=>by simp only[List.mem_cons];exact⟨fun h=>by rcases h with h|h|h<;>simp[h],fun h=>by rcases h with h|h|h<;>simp[h]⟩]
    refine propext (ih (j::done) (cA fr x.dst w) M' u hq2 ?_).symm
    rw[<-hu]
    congr 1
    cases hxd:x.dst with
    |none=>rfl
    |some e2=>
     have:fO e2 (aG o.op)=false:=(p4 e2 hxd).resolve_right fun he=>h1 (edge he g2)
     exact kB this
theorem tZ {qs:List Nat} (hqs:qs.all (EH all)=true):∀(n:Nat) (done:List Nat),pz P tt dm all qs K n done=br P tt dm all K n done
 |0,done=>by
  funext fr M
  rw[pz,br]
  cases c6 all done<;>rfl
 |n+1,done=>by
  funext fr M
  have e:∀j,pz P tt dm all qs K n (j::done)=br P tt dm all K n (j::done):=fun j=>tZ hqs n _
  rw[pz]
  simp only[e]
  cases hr:c6 all done with
  |nil=>rw[br,hr]
  |cons i l=>
   have hk:br P tt dm all K (n+1) done fr M=ob (i::l) fun j=>An P tt dm all j fr M (br P tt dm all K n (j::done)):=by rw[br,hr]
   simp only
   cases hf:xq qs (i::l) with
   |none=>exact hk.symm
   |some q=>
    simp only
    obtain⟨h1,h2⟩:=pA hf
    have hok:=List.all_eq_true.1 hqs q h1
    rw[<-hk]
    unfold Ow
    cases ho:all[q]? with
    |none=>rfl
    |some o=>
     simp only[fS]
     cases hu:uC tt o.op ((aG o.op).map (cY fr)) with
     |val u=>
      simp only[b7,fj]
      have hok':=hok
      unfold EH at hok'
      rw[ho] at hok'
      cases hd:o.dst with
      |none=>simp only[hd] at hok';cases hok'
      |some d=>exact propext (J3 hok ho hd n done fr M u (by rw[hr];exact h2) hu).symm
     |_=>rfl
end
theorem mL {P:Program} {tt:TT} {ops:List Oper} {fr:List AV} {M:ag} {K:List AV->ag->Prop} (qs:List Nat) (hqs:qs.all (EH ops)=true) (h:pz P tt (some .own) ops qs K ops.length [] fr M):gQ P tt ops fr M K:=
 nU (by rw[tZ hqs] at h;exact h)
theorem oo {P:Program} {tt:TT} {ops:List Oper} {fr:List AV} {M:ag} {K:List AV->ag->Prop} (qs:List Nat) (hqs:qs.all (EH ops)=true) (h:pz P tt none ops qs K ops.length [] fr M):gQ P tt ops fr M K:=
 NS (by rw[tZ hqs] at h;exact h)
end Go.Proofs.YtekmminpfhacpaaGreatDoor
