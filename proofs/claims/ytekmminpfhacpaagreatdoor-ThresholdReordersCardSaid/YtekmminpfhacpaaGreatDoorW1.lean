import Derived.Test.YtekmminpfhacpaaGreatDoorTab
import Derived.Test.YtekmminpfhacpaaGreatDoorP1
import Derived.Test.YtekmminpfhacpaaGreatDoorFtE
import Derived.Test.YtekmminpfhacpaaGreatDoorV1
set_option linter.unusedVariables false
set_option linter.unusedSimpArgs false
namespace Go.Proofs.YtekmminpfhacpaaGreatDoor
set_option maxRecDepth 100000
def gz (k:Int×Int):Value:=.agg #[.int .i64 k.1, .int .i64 k.2]
theorem iH:kD Tryz.prog 157 gz:=by
 have ht:Tryz.prog.underlying 3=some (.int .i64):=Tryz.underlying3
 have hta:=Tryz.underlying157
 have hag:∀w,(isAgg 3).run Tryz.prog w= .ok false w:=fun w=>by simp[isAgg,run_underlying ht]
 have hsz:∀w,(Go.sizeOf 3).run Tryz.prog w= .ok 1 w:=fun w=>by
  obtain⟨i,hi⟩:∃i,tt.find 3=some i:=⟨_,rfl⟩
  have:=TOk.size ae hi w
  cases hi
  exact this
 refine kD.ask Tryz.underlying157 ?_ ?_ ?_ ?_ ?_
 ·rintro⟨a,b⟩ ⟨c,d⟩ h
  simpa[gz] using h
 ·rintro e ⟨a,b⟩ w
  have h4:∀n w,(Instr.checkKey e (n+2) 157 (gz (a,b))).run Tryz.prog w= .ok () w:=fun n w=>by
   simp[Instr.checkKey,run_underlying hta,run_underlying ht,gz,part,hag,hsz,Std.Legacy.Range.forIn_eq_forIn_range',List.range',List.forIn_cons,List.forIn_nil]
  exact h4 9998 w
 ·intro a b;rfl
 ·rintro⟨a,b⟩ ⟨c,d⟩ w
  refine⟨decide (a=c/\b=d),?_,by simp[gz]⟩
  have hI:∀n w (x y:Int),(Op.equalIn (n+1) 3 (.int .i64 x) (.int .i64 y)).run Tryz.prog w= .ok (x==y) w:=fun n w x y=>by
   rw[Op.equalIn]
   simp[run_underlying ht]
  have h4:∀n w,(Op.equalIn (n+2) 157 (gz (a,b)) (gz (c,d))).run Tryz.prog w= .ok (decide (a=c/\b=d)) w:=fun n w=>by
   rw[Op.equalIn]
   simp only[Sem.run_bind,run_underlying hta,Result.andThen_ok,gz]
   simp[part,hag,hsz,hI,Std.Legacy.Range.forIn_eq_forIn_range',List.range',List.forIn_cons,List.forIn_nil]
   by_cases h1:a=c<;>by_cases h2:b=d<;>simp[h1,h2]
  exact h4 9998 w
 ·rintro⟨a,b⟩
  have h4:∀n,Instr.sameBits (n+1) (gz (a,b)) (gz (a,b))=true:=fun n=>by simp[gz,Instr.sameBits]
  exact h4 9999
set_option maxHeartbeats 16000000
theorem am.idn {P:Program} {f:FuncId} {args:List AV} {L0 L:List (Nat×cp)} {u0:AV} (hb:(kE (oG L) L&&kF L (oG L)&&sT (oG L) (L0.map (·.1)))=true) (hu:kQ (oG L) 400 u0 u0)
  (h:am P f args (aj.ofL L0) (fun u M=>u=u0/\dV (oG L) 400 M L)):am P f args (aj.ofL L0) (fun u M=>u=u0/\M=aj.ofL L):=
 h.norm 400 fun u M' ⟨e,hM⟩=>⟨L,u0,hb,hM,by rw[e];exact hu,rfl,rfl⟩
abbrev JP (p:an) (q:aG) (sch:List Int) (n lr nr:Nat):List AV:=[.pd (dQ p q), .sl 0 ao sch, .int .i64 n, .mp 210, .mp 211, .mp 212, .mp 213, .mp 214, .mp 215, .mp 216, .row lr nr 2]
noncomputable abbrev fY (vars:List Vb) (k:Int):cp:=.map gz (Value.int .i64) (kK vars k vars.length)
noncomputable abbrev cG (p:an) (q:aG) (sch:List Int) (vars:List Vb) (rows:List fo):List (Nat×cp):=
 [(200, .box 156 (JP p q sch vars.length 201 rows.length)),(201, .row 161 cP dM rows),(210,fY vars 0),(211,fY vars 1),(212,fY vars 2),(213,fY vars 3),(214,fY vars 4),(215,fY vars 5),(216,fY vars 6)]
noncomputable abbrev ep (p:an) (q:aG) (sch:List Int) (vars:List Vb) (rows:List fo) (co:Co) (c:Int):List (Nat×cp):=
 [(200, .box 156 (JP p q sch vars.length 201 rows.length)),(201, .row 161 cP dM rows),(210,fY vars 0),(211,fY vars 1),(212,fY vars 2),(213,fY vars 3),(214,fY vars 4),(215,fY vars 5),(216,fY vars 6),
  (220, .box 161 [.row 221 vars.length 1, .int .i64 c]),(221, .row 3 0 ao (vars.map co))]
def oj:dE:=[(200, .old 200),(201, .old 201),(210, .old 210),(211, .old 211),(212, .old 212),(213, .old 213),(214, .old 214),(215, .old 215),(216, .old 216),(220, .old 220),(221, .old 221)]
def pR (X:Int) (co:Co):Prop:=∀v,-X<=co v/\co v<=X
theorem ze (p:an) (q:aG) (sch:List Int) (vars:List Vb) (rows:List fo) (co:Co) (c:Int) (hn:vars.Nodup) (hv:vars.length<=1000000) (kind:Nat) (hk:kind<7) (seg idx k:Int) (hb:pR 1152921504606846976 co) (hf:-1152921504606846976<=k/\k<=1152921504606846976):
  am Tryz.prog 195 [.ptr 200 0, .ptr 220 0, .int .i64 k, .int .i64 (kind:Int), .int .i64 seg, .int .i64 idx] (aj.ofL (ep p q sch vars rows co c))
   (fun u M=>u= .tup []/\M=aj.ofL (ep p q sch vars rows (cR co ⟨kind,seg,idx⟩ k) c)):=by
 have hs:∀b,kK vars kind vars.length (seg,idx)=some b->∃m:Nat,b=m/\m<vars.length/\(vars.map co).set m ((vars.map co).getD m 0+k)=vars.map (cR co ⟨kind,seg,idx⟩ k):=by
  intro b h
  obtain⟨m,rfl,hm,e⟩:=iA h
  refine⟨m,rfl,hm,?_⟩
  rw[g9 co hm,Ap co k hn hm,e]
 have hno:kK vars kind vars.length (seg,idx)=none->vars.map co=vars.map (cR co ⟨kind,seg,idx⟩ k):=fun h=>(ES co k (oY h)).symm
 have hg:∀m,m<vars.length->-1152921504606846976<=(vars.map co).getD m 0/\(vars.map co).getD m 0<=1152921504606846976:=fun m hm=>by rw[g9 co hm];exact hb _
 have hl:(vars.map co).length=vars.length:=List.length_map ..
 refine am.idn rfl trivial ?_
 generalize hA:vars.map co=A at hs hno hg hl
 generalize hB:vars.map (cR co ⟨kind,seg,idx⟩ k)=B at hs hno
 have eA:ep p q sch vars rows co c=[(200, .box 156 (JP p q sch vars.length 201 rows.length)),(201, .row 161 cP dM rows),(210,fY vars 0),(211,fY vars 1),(212,fY vars 2),(213,fY vars 3),(214,fY vars 4),(215,fY vars 5),(216,fY vars 6),
  (220, .box 161 [.row 221 vars.length 1, .int .i64 c]),(221, .row 3 0 ao A)]:=by unfold ep;rw[hA]
 have eB:ep p q sch vars rows (cR co ⟨kind,seg,idx⟩ k) c=[(200, .box 156 (JP p q sch vars.length 201 rows.length)),(201, .row 161 cP dM rows),(210,fY vars 0),(211,fY vars 1),(212,fY vars 2),(213,fY vars 3),(214,fY vars 4),(215,fY vars 5),(216,fY vars 6),
  (220, .box 161 [.row 221 vars.length 1, .int .i64 c]),(221, .row 3 0 ao B)]:=by unfold ep;rw[hB]
 rw[eA,eB]
 clear eA eB hA hB hb
 obtain rfl|rfl|rfl|rfl|rfl|rfl|rfl:kind=0\/kind=1\/kind=2\/kind=3\/kind=4\/kind=5\/kind=6:=by omega
 all_goals
  refine am.intro ae ag [(200, .box 156 (JP p q sch vars.length 201 rows.length)),(201, .row 161 cP dM rows),(210,fY vars 0),(211,fY vars 1),(212,fY vars 2),(213,fY vars 3),(214,fY vars 4),(215,fY vars 5),(216,fY vars 6),
  (220, .box 161 [.row 221 vars.length 1, .int .i64 c]),(221, .row 3 0 ao A)] Tryz.func195 rfl (by decide) ?_
  (conv=>whnf)
  refine bX (by decide) ?_
  (conv=>whnf)
  refine wk iH (seg,idx) rfl (fun b hb=>?_) (fun hb=>?_)<;>(conv=>whnf)
  ·obtain⟨m,rfl,hm,e⟩:=hs b hb
   have h1:=hg m hm
   have h2:-1152921504606846976<=A.getD (m:Int).toNat 0/\A.getD (m:Int).toNat 0<=1152921504606846976:=by rw[tN];exact h1
   subst e
   repeat' ((first|refine nI ?_|refine aI ?_|refine tI ?_|refine fI ?_|fail);conv=>whnf)
   refine aw (A.getD (m:Int).toNat 0+k) rfl ?_
   (conv=>whnf)
   exact⟨rfl,(aa)⟩
  ·have e:=hno hb
   subst e
   exact⟨rfl,(aa)⟩
theorem Ix (p:an) (q:aG) (sch:List Int) (vars:List Vb) (rows:List fo) (co:Co) (c:Int) (hn:vars.Nodup) (hv:vars.length<=1000000) (kind:Int) (hk:0<=kind/\kind<7) (seg idx k:Int) (hb:pR 1152921504606846976 co) (hf:-1152921504606846976<=k/\k<=1152921504606846976):
  am Tryz.prog 195 [.ptr 200 0, .ptr 220 0, .int .i64 k, .int .i64 kind, .int .i64 seg, .int .i64 idx] (aj.ofL (ep p q sch vars rows co c))
   (fun u M=>u= .tup []/\M=aj.ofL (ep p q sch vars rows (cR co ⟨kind,seg,idx⟩ k) c)):=by
 obtain⟨n,rfl⟩:∃n:Nat,kind=n:=⟨kind.toNat,by omega⟩
 exact ze p q sch vars rows co c hn hv n (by omega) seg idx k hb hf
theorem qe {X:Int} {co:Co} (h:pR X co) (v0:Vb) {k Y:Int} (hk:-Y<=k/\k<=Y) (hY:0<=Y):pR (X+Y) (cR co v0 k):=fun v=>by
 unfold cR
 have:=h v
 split<;>omega
theorem bi {X Y:Int} {co:Co} (h:pR X co) (hX:X<=Y):pR Y co:=fun v=>by
 have:=h v
 omega
theorem qf {k a:Int} (hk:cD k) (ha:cD a):-10000<=k*a/\k*a<=10000:=y4 hk ha
theorem Cz (p:an) (q:aG) (sch:List Int) (vars:List Vb) (rows:List fo) (co:Co) (c:Int) (hn:vars.Nodup) (hv:vars.length<=1000000) (k:Int) (l:kG) (hb:pR 1099511627776 co) (hc:-1099511627776<=c/\c<=1099511627776) (hk:cD k) (hl:eh l):
  am Tryz.prog 194 [.ptr 200 0, .ptr 220 0, .int .i64 k, .agg (cI l)] (aj.ofL (ep p q sch vars rows co c))
   (fun u M=>u= .tup []/\M=aj.ofL (ep p q sch vars rows (cl co k (fT l)) (c+k*l.c))):=by
 obtain⟨lc,ln,lt,lf⟩:=hl
 have b0:=qf hk lc
 have b1:=qf hk ln
 have b2:=qf hk lt
 have b3:=qf hk lf
 have e1:=qe hb ⟨0,0,0⟩ (k:=k*l.n) (Y:=10000) (by omega) (by omega)
 have e2:=qe e1 ⟨1,0,0⟩ (k:=k*l.t) (Y:=10000) (by omega) (by omega)
 have a1:=Ix p q sch vars rows co c hn hv 0 (by omega) 0 0 (k*l.n) (bi hb (by omega)) (by omega)
 have a2:=Ix p q sch vars rows _ c hn hv 1 (by omega) 0 0 (k*l.t) (bi e1 (by omega)) (by omega)
 have a3:=Ix p q sch vars rows _ c hn hv 2 (by omega) 0 0 (k*l.f) (bi e2 (by omega)) (by omega)
 rw[Ie] at a3
 generalize cR co ⟨0,0,0⟩ (k*l.n)=d1 at*
 generalize cR d1 ⟨1,0,0⟩ (k*l.t)=d2 at*
 refine am.idn rfl trivial ?_
 refine am.intro ae ag (ep p q sch vars rows co c) Tryz.func194 rfl (by decide) ?_
 simp only[j7]
 rw[show Tryz.f194.ntmps=40 from rfl]
 simp only[c8]
 simp only[eF]
 rw[bR]
 simp only[gv,aN,List.map_cons,List.map_nil,bh]
 conv=>whnf
 refine al rfl ?_
 conv=>whnf
 repeat' ((first|refine nI ?_|refine aI ?_|refine tI ?_|refine fI ?_|fail);conv=>whnf)
 refine am.call oj (ep p q sch vars rows co c) 400 rfl (aa) (aa) a1 ?_
 rintro u M' ⟨rfl,rfl⟩
 refine⟨oj,ep p q sch vars rows d1 c, .tup [],rfl,(aa),trivial,?_⟩
 conv=>whnf
 repeat' ((first|refine nI ?_|refine aI ?_|refine tI ?_|refine fI ?_|fail);conv=>whnf)
 refine am.call oj (ep p q sch vars rows d1 c) 400 rfl (aa) (aa) a2 ?_
 rintro u M' ⟨rfl,rfl⟩
 refine⟨oj,ep p q sch vars rows d2 c, .tup [],rfl,(aa),trivial,?_⟩
 conv=>whnf
 repeat' ((first|refine nI ?_|refine aI ?_|refine tI ?_|refine fI ?_|fail);conv=>whnf)
 refine am.call oj (ep p q sch vars rows d2 c) 400 rfl (aa) (aa) a3 ?_
 rintro u M' ⟨rfl,rfl⟩
 refine⟨oj,ep p q sch vars rows (cl co k (fT l)) c, .tup [],rfl,(aa),trivial,?_⟩
 conv=>whnf
 refine DX rfl ?_
 conv=>whnf
 repeat' ((first|refine nI ?_|refine aI ?_|refine tI ?_|refine fI ?_|fail);conv=>whnf)
 exact⟨rfl,(aa)⟩
theorem FG (rs:List bo) (start fire state:Int) (co:Co) (k:Int):cR co ⟨start,0,state⟩ k=cl co k (cn rs start fire state 0 0):=by
 funext v
 have h:¬fJ rs.length fire (0:Nat) 0 v:=by unfold fJ;omega
 unfold cR cl cn
 rw[if_neg h]
 by_cases e:v=⟨start,0,state⟩
 ·rw[if_pos e,if_pos e];omega
 ·rw[if_neg e,if_neg e];omega
theorem FH (rs:List bo) (fire message:Int) (co:Co) (k:Int):cl co k (bT rs fire message 0 0)=co:=by
 funext v
 have h:¬(fJ rs.length fire (0:Nat) 0 v/\message∈(rs.getD v.idx.toNat ap).send):=by unfold fJ;omega
 unfold cl bT
 rw[if_neg h];omega
theorem lx {X:Int} {co d:Co} {k:Int} (h:pR X co) (hk:cD k) (hd:∀v,-2<=d v/\d v<=2):pR (X+200) (cl co k d):=fun v=>by
 have a:=h v
 have b:-(100*2)<=k*d v/\k*d v<=100*2:=y4 hk (hd v)
 unfold cl
 omega
theorem AE (p:an) (q:aG) (sch:List Int) (vars:List Vb) (rows:List fo) (co:Co) (c:Int) (hn:vars.Nodup) (hv:vars.length<=1000000) (k state:Int) (start fire seg:Nat) (hst:start<7) (hfi:fire<7) (hsg:seg<=10) (hr:p.rules.length<=1000) (hb:pR 1099511627776 co) (hk:cD k):
  am Tryz.prog 197 [.ptr 200 0, .ptr 220 0, .int .i64 k, .int .i64 (start:Int), .int .i64 (fire:Int), .int .i64 state, .int .i64 (seg:Int)] (aj.ofL (ep p q sch vars rows co c))
   (fun u M=>u= .tup []/\M=aj.ofL (ep p q sch vars rows (cl co k (cn p.rules start fire state (seg+1) 0)) c)):=by
 have hkb:-100<=k/\k<=100:=hk
 have a0:=ze p q sch vars rows co c hn hv start hst 0 state k (bi hb (by omega)) (by omega)
 rw[FG p.rules start fire state] at a0
 have hFb:∀j i,pR 1099511627976 (cl co k (cn p.rules start fire state j i)):=fun j i=>lx hb hk fun v=>by have:=ET p.rules start fire state j i v;omega
 have hFn:=fun j i=>EW p.rules start fire state j i co k
 have hFe:=fun j=>congrArg (cl co k) (Ib p.rules start fire state j)
 obtain⟨F,hF⟩:∃F:Nat->Nat->Co,F=fun j i=>cl co k (cn p.rules start fire state j i):=⟨_,rfl⟩
 have e0:∀j i,cl co k (cn p.rules start fire state j i)=F j i:=fun j i=>by rw[hF]
 simp only[e0] at a0 hFb hFn hFe
 rw[e0]
 clear e0 hF
 refine am.idn rfl trivial ?_
 refine am.intro ae ag (ep p q sch vars rows co c) Tryz.func197 rfl (by decide) ?_
 conv=>whnf
 refine am.call oj (ep p q sch vars rows co c) 400 rfl (aa) (aa) a0 ?_
 rintro u M' ⟨rfl,rfl⟩
 refine⟨oj,ep p q sch vars rows (F 0 0) c, .tup [],rfl,(aa),trivial,?_⟩
 conv=>whnf
 repeat' ((first|refine nI ?_|refine aI ?_|refine tI ?_|refine fI ?_|fail);conv=>whnf)
 refine aQ.loopF ae ag (fun j:Nat=>j<=seg+1) (fun j=>[(25, .int .i64 (j:Int))]) (fun j=>ep p q sch vars rows (F j 0) c) (fun j=>seg+1-j) 0 (Nat.zero_le _) ?_;conv=>whnf
 refine⟨bn.by_ oj _ 400 rfl (aa) (aa),?_⟩
 rintro j hj
 conv=>whnf
 refine ah ?_ ?_<;>(intro h1;conv=>whnf)
 ·repeat' ((first|refine nI ?_|refine aI ?_|refine tI ?_|refine fI ?_|fail);conv=>whnf)
  refine aQ.loopF ae ag (fun i:Nat=>i<=p.rules.length) (fun i=>[(37, .int .i64 (i:Int))]) (fun i=>ep p q sch vars rows (F j i) c) (fun i=>p.rules.length-i) 0 (Nat.zero_le _) ?_;conv=>whnf
  refine⟨bn.by_ oj _ 400 rfl (aa) (aa),?_⟩
  rintro i hi
  conv=>whnf
  refine ah ?_ ?_<;>(intro h2;conv=>whnf)
  ·have hlt:i<p.rules.length:=by omega
   have hs:=hFn j i
   unfold EV at hs
   dsimp only at hs
   repeat' ((first|refine nI ?_|refine aI ?_|refine tI ?_|refine fI ?_|fail);conv=>whnf)
   refine ah ?_ ?_<;>(intro h3;conv=>whnf)
   ·rw[tN] at h3;rw[if_pos h3] at hs
    have a1:=ze p q sch vars rows (F j i) c hn hv fire hfi j i k (bi (hFb j i) (by omega)) (by omega)
    have hG:=qe (hFb j i) ⟨fire,j,i⟩ (k:=k) (Y:=100) hkb (by omega)
    generalize cR (F j i) ⟨fire,j,i⟩ k=G at a1 hs hG
    repeat' ((first|refine nI ?_|refine aI ?_|refine tI ?_|refine fI ?_|fail);conv=>whnf)
    refine am.call oj (ep p q sch vars rows (F j i) c) 400 rfl (aa) (aa) a1 ?_
    rintro u M' ⟨rfl,rfl⟩
    refine⟨oj,ep p q sch vars rows G c, .tup [],rfl,(aa),trivial,?_⟩
    conv=>whnf
    repeat' ((first|refine nI ?_|refine aI ?_|refine tI ?_|refine fI ?_|fail);conv=>whnf)
    refine ah ?_ ?_<;>(intro h4;conv=>whnf)
    ·rw[tN] at h4;rw[if_pos h4] at hs
     have a2:=ze p q sch vars rows G c hn hv fire hfi j i (-k) (bi hG (by omega)) (by omega)
     rw[<-hs] at a2
     repeat' ((first|refine nI ?_|refine aI ?_|refine tI ?_|refine fI ?_|fail);conv=>whnf)
     refine am.call oj (ep p q sch vars rows G c) 400 rfl (aa) (aa) a2 ?_
     rintro u M' ⟨rfl,rfl⟩
     refine⟨oj,ep p q sch vars rows (F j (i+1)) c, .tup [],rfl,(aa),trivial,?_⟩
     conv=>whnf
     repeat' ((first|refine nI ?_|refine aI ?_|refine tI ?_|refine fI ?_|fail);conv=>whnf)
     refine⟨i+1,?_,by omega,by dsimp only;omega⟩
     exact bn.by_ oj _ 400 rfl (aa) (aa)
    ·rw[tN] at h4;rw[if_neg h4] at hs
     repeat' ((first|refine nI ?_|refine aI ?_|refine tI ?_|refine fI ?_|fail);conv=>whnf)
     refine⟨i+1,?_,by omega,by dsimp only;omega⟩
     dsimp only
     rw[hs]
     exact bn.by_ oj _ 400 rfl (aa) (aa)
   ·rw[tN] at h3;rw[if_neg h3] at hs
    repeat' ((first|refine nI ?_|refine aI ?_|refine tI ?_|refine fI ?_|fail);conv=>whnf)
    refine ah ?_ ?_<;>(intro h4;conv=>whnf)
    ·rw[tN] at h4;rw[if_pos h4] at hs
     have a2:=ze p q sch vars rows (F j i) c hn hv fire hfi j i (-k) (bi (hFb j i) (by omega)) (by omega)
     rw[<-hs] at a2
     repeat' ((first|refine nI ?_|refine aI ?_|refine tI ?_|refine fI ?_|fail);conv=>whnf)
     refine am.call oj (ep p q sch vars rows (F j i) c) 400 rfl (aa) (aa) a2 ?_
     rintro u M' ⟨rfl,rfl⟩
     refine⟨oj,ep p q sch vars rows (F j (i+1)) c, .tup [],rfl,(aa),trivial,?_⟩
     conv=>whnf
     repeat' ((first|refine nI ?_|refine aI ?_|refine tI ?_|refine fI ?_|fail);conv=>whnf)
     refine⟨i+1,?_,by omega,by dsimp only;omega⟩
     exact bn.by_ oj _ 400 rfl (aa) (aa)
    ·rw[tN] at h4;rw[if_neg h4] at hs
     repeat' ((first|refine nI ?_|refine aI ?_|refine tI ?_|refine fI ?_|fail);conv=>whnf)
     refine⟨i+1,?_,by omega,by dsimp only;omega⟩
     dsimp only
     rw[hs]
     exact bn.by_ oj _ 400 rfl (aa) (aa)
  ·repeat' ((first|refine nI ?_|refine aI ?_|refine tI ?_|refine fI ?_|fail);conv=>whnf)
   refine⟨j+1,?_,by omega,by dsimp only;omega⟩
   obtain rfl:i=p.rules.length:=by omega
   dsimp only
   rw[<-hFe j]
   exact bn.by_ oj _ 400 rfl (aa) (aa)
 ·obtain rfl:j=seg+1:=by omega
  exact⟨rfl,(aa)⟩
theorem AF (p:an) (q:aG) (sch:List Int) (vars:List Vb) (rows:List fo) (co:Co) (c:Int) (hn:vars.Nodup) (hv:vars.length<=1000000) (k message:Int) (fire seg:Nat) (hfi:fire<7) (hsg:seg<=10) (hr:p.rules.length<=1000) (hsd:∀i,i<p.rules.length->(p.rules.getD i ap).send.length<=1000000) (hb:pR 1099511627776 co) (hk:cD k):
  am Tryz.prog 196 [.ptr 200 0, .ptr 220 0, .int .i64 k, .int .i64 (fire:Int), .int .i64 message, .int .i64 (seg:Int)] (aj.ofL (ep p q sch vars rows co c))
   (fun u M=>u= .tup []/\M=aj.ofL (ep p q sch vars rows (cl co k (bT p.rules fire message seg 0)) c)):=by
 have hkb:-100<=k/\k<=100:=hk
 have hF0:=FH p.rules fire message co k
 have hFb:∀j i,pR 1099511627976 (cl co k (bT p.rules fire message j i)):=fun j i=>lx hb hk fun v=>by have:=tn p.rules fire message j i v;omega
 have hFn:=fun j i=>EU p.rules fire message j i co k
 have hFe:=fun j=>congrArg (cl co k) (Ic p.rules fire message j)
 obtain⟨F,hF⟩:∃F:Nat->Nat->Co,F=fun j i=>cl co k (bT p.rules fire message j i):=⟨_,rfl⟩
 have e0:∀j i,cl co k (bT p.rules fire message j i)=F j i:=fun j i=>by rw[hF]
 simp only[e0] at hF0 hFb hFn hFe
 rw[e0]
 clear e0 hF
 subst hF0
 refine am.idn rfl trivial ?_
 refine am.intro ae ag (ep p q sch vars rows (F 0 0) c) Tryz.func196 rfl (by decide) ?_
 conv=>whnf
 refine aQ.loopF ae ag (fun j:Nat=>j<=seg) (fun j=>[(16, .int .i64 (j:Int))]) (fun j=>ep p q sch vars rows (F j 0) c) (fun j=>seg-j) 0 (Nat.zero_le _) ?_;conv=>whnf
 refine⟨bn.by_ oj _ 400 rfl (aa) (aa),?_⟩
 rintro j hj
 conv=>whnf
 refine ah ?_ ?_<;>(intro h1;conv=>whnf)
 ·repeat' ((first|refine nI ?_|refine aI ?_|refine tI ?_|refine fI ?_|fail);conv=>whnf)
  refine aQ.loopF ae ag (fun i:Nat=>i<=p.rules.length) (fun i=>[(28, .int .i64 (i:Int))]) (fun i=>ep p q sch vars rows (F j i) c) (fun i=>p.rules.length-i) 0 (Nat.zero_le _) ?_;conv=>whnf
  refine⟨bn.by_ oj _ 400 rfl (aa) (aa),?_⟩
  rintro i hi
  conv=>whnf
  refine ah ?_ ?_<;>(intro h2;conv=>whnf)
  ·have hlt:i<p.rules.length:=by omega
   have hs:=hFn j i
   repeat' ((first|refine nI ?_|refine aI ?_|refine tI ?_|refine fI ?_|fail);conv=>whnf)
   refine dC (be (p.rules.getD i ap).send message (Nat.le_trans (hsd i hlt) (by omega))) (fun _=>?_) (fun _=>?_)<;>(conv=>whnf)
   ·rename_i h3
    rw[if_pos h3] at hs
    have a1:=ze p q sch vars rows (F j i) c hn hv fire hfi j i k (bi (hFb j i) (by omega)) (by omega)
    rw[<-hs] at a1
    repeat' ((first|refine nI ?_|refine aI ?_|refine tI ?_|refine fI ?_|fail);conv=>whnf)
    refine am.call oj (ep p q sch vars rows (F j i) c) 400 rfl (aa) (aa) a1 ?_
    rintro u M' ⟨rfl,rfl⟩
    refine⟨oj,ep p q sch vars rows (F j (i+1)) c, .tup [],rfl,(aa),trivial,?_⟩
    conv=>whnf
    repeat' ((first|refine nI ?_|refine aI ?_|refine tI ?_|refine fI ?_|fail);conv=>whnf)
    refine⟨i+1,?_,by omega,by dsimp only;omega⟩
    exact bn.by_ oj _ 400 rfl (aa) (aa)
   ·rename_i h3
    rw[if_neg h3] at hs
    repeat' ((first|refine nI ?_|refine aI ?_|refine tI ?_|refine fI ?_|fail);conv=>whnf)
    refine⟨i+1,?_,by omega,by dsimp only;omega⟩
    dsimp only
    rw[hs]
    exact bn.by_ oj _ 400 rfl (aa) (aa)
  ·repeat' ((first|refine nI ?_|refine aI ?_|refine tI ?_|refine fI ?_|fail);conv=>whnf)
   refine⟨j+1,?_,by omega,by dsimp only;omega⟩
   obtain rfl:i=p.rules.length:=by omega
   dsimp only
   rw[<-hFe j]
   exact bn.by_ oj _ 400 rfl (aa) (aa)
 ·obtain rfl:j=seg:=by omega
  exact⟨rfl,(aa)⟩
def cH:dE:=[(200, .old 200),(201, .old 201),(210, .old 210),(211, .old 211),(212, .old 212),(213, .old 213),(214, .old 214),(215, .old 215),(216, .old 216)]
noncomputable abbrev nH (p:an) (q:aG) (sch:List Int) (vars:List Vb) (rows:List fo):List (Nat×cp):=
 [(200, .box 156 (JP p q sch vars.length 202 rows.length)),(201, .dead),(202, .row 161 cP dM rows),(210,fY vars 0),(211,fY vars 1),(212,fY vars 2),(213,fY vars 3),(214,fY vars 4),(215,fY vars 5),(216,fY vars 6)]
theorem FI (vars:List Vb):List.replicate vars.length (0:Int)=vars.map zC:=by
 apply List.ext_getElem
 ·simp
 ·intro i h1 h2;simp[zC]
theorem zf (p:an) (q:aG) (sch:List Int) (vars:List Vb) (rows:List fo) (hv:vars.length<=1000000):
  am Tryz.prog 193 [.ptr 200 0] (aj.ofL (cG p q sch vars rows))
   (fun u M=>u= .agg [.row 221 vars.length 1, .int .i64 0]/\M=aj.ofL (cG p q sch vars rows++[(221, .row 3 0 ao (vars.map zC))])):=by
 rw[<-FI]
 refine am.renorm 400 (R:=fun u M=>u= .agg [.row 7 vars.length 1, .int .i64 0]/\dV (cH++[(221, .old 7)]) 400 M (cG p q sch vars rows++[(221, .row 3 0 ao (List.replicate vars.length (0:Int)))])) ?_ ?_
 case refine_2=>
  rintro u M ⟨rfl,hM⟩
  exact⟨cH++[(221, .old 7)],_,_,rfl,hM,(aa),rfl,rfl⟩
 refine am.intro ae ag (cG p q sch vars rows) Tryz.func193 rfl (by decide) ?_
 conv=>whnf
 refine Dw 0 ao 0 rfl (by dsimp only;omega) ?_
 conv=>whnf
 exact⟨rfl,(aa)⟩
theorem NZ (p:an) (q:aG) (sch:List Int) (vars:List Vb) (rows:List fo) (hn:vars.Nodup) (hv:vars.length<=1000000) (hr:rows.length<=1000000) (l:kG) (hl:eh l):
  am Tryz.prog 106 [.ptr 200 0, .agg (cI l)] (aj.ofL (cG p q sch vars rows))
   (fun u M=>u= .tup []/\M=aj.ofL (nH p q sch vars (rows++[c6 vars (o0 l)]))):=by
 have hz:pR 1099511627776 zC:=fun v=>by unfold zC;omega
 have a1:=Cz p q sch vars rows zC 0 hn hv 1 l hz (by omega) (by unfold cD;omega) hl
 have e1:cl zC 1 (fT l)=fT l:=by funext v;unfold cl zC;omega
 have e2:0+1*l.c=l.c:=by omega
 rw[e1,e2] at a1
 refine am.renorm 400 (R:=fun u M=>u= .tup []/\dV ((202, .old 17)::cH) 400 M (nH p q sch vars (rows++[c6 vars (o0 l)]))) ?_ ?_
 case refine_2=>
  rintro u M ⟨rfl,hM⟩
  exact⟨(202, .old 17)::cH,_, .tup [],rfl,hM,trivial,rfl,rfl⟩
 refine am.intro ae ag (cG p q sch vars rows) Tryz.func106 rfl (by decide) ?_
 simp only[j7]
 rw[show Tryz.f106.ntmps=20 from rfl]
 simp only[c8]
 simp only[eF]
 rw[bR]
 simp only[gv,aN,List.map_cons,List.map_nil,bh]
 conv=>whnf
 refine al rfl ?_
 conv=>whnf
 refine am.call cH (cG p q sch vars rows) 400 rfl (aa) (aa) (zf p q sch vars rows hv) ?_
 rintro u M' ⟨rfl,rfl⟩
 refine⟨cH++[(221, .old 221)],cG p q sch vars rows++[(221, .row 3 0 ao (vars.map zC))], .agg [.row 221 vars.length 1, .int .i64 0],rfl,(aa),(aa),?_⟩
 conv=>whnf
 refine am.call (cH++[(220, .old 4),(221, .old 221)]) (ep p q sch vars rows zC 0) 400 rfl (aa) (aa) a1 ?_
 rintro u M' ⟨rfl,rfl⟩
 refine⟨cH++[(4, .old 220),(221, .old 221)],cG p q sch vars rows++[(4, .box 161 [.row 221 vars.length 1, .int .i64 l.c]),(221, .row 3 0 ao (vars.map (fT l)))], .tup [],rfl,(aa),trivial,?_⟩
 conv=>whnf
 refine ni ?_
 conv=>whnf
 repeat' first
  |exact True.intro
  |(refine And.intro ?_ ?_<;>conv=>whnf)
  |(refine cf cP dM [c6 vars (o0 l)] rfl ?_;conv=>whnf)
  |(refine fl ?_;conv=>whnf)
  |(refine cz [c6 vars (o0 l)] rfl lI ?_;conv=>whnf)
  |exact rfl
  |exact(List.length_append ..).symm
  |fail
def Mg:Op->Bool
 |.move _| .fieldAddr _ _ _| .nilCheck _| .indexAddr _ _ _| .build _ _| .field _ _ _=>true
 |_=>false
def eO (d:Nat) (xs:List Operand):Bool:=xs.any fun x=>match x with
 |.tmp t=>Nat.beq t d
 |_=>false
def fZ (x:Oper) (q:Nat):Bool:=x.after.toList.any fun e=>Region.binds .any e&&Nat.beq e.on q
def xm (d:Nat):Option Tmp->Bool
 |some e=>!(Nat.beq e d)
 |none=>true
def CA (all:List Oper) (q:Nat):Bool:=match all[q]? with
 |none=>false
 |some o=>match o.dst with
  |none=>false
  |some d=>Mg o.op&&o.guard.isNone&&(List.range all.length).all fun j=>Nat.beq j q||match all[j]? with
   |none=>true
   |some x=>x.guard.isNone&&xm d x.dst&&(!(eO d (aN x.op))||fZ x q)&&(match x.dst with|none=>true|some e=>!(eO e (aN o.op))||fZ o j)
def uW:List Nat->List Nat->Option Nat
 |[],_=>none
 |q::qs,l=>match l.any (Nat.beq q) with
  |true=>some q
  |false=>uW qs l
def MS (tt:TT) (all:List Oper) (q:Nat) (fr:List AV) (k1:List AV->Prop) (k2:Prop):Prop:=match all[q]? with
 |none=>k2
 |some o=>yo fr (aN o.op) fun us=>match so tt o.op us with
  |.val u=>kW u fun u=>mg fr o.dst u k1
  |_=>k2
def nJ (P:Program) (tt:TT) (d:Option aO) (all:List Oper) (qs:List Nat) (K:List AV->aj->Prop):Nat->List Nat->List AV->aj->Prop
 |0,done,fr,M=>match cw all done with
  |[]=>K fr M
  |_::_=>False
 |n+1,done,fr,M=>match cw all done with
  |[]=>K fr M
  |i::l=>match uW qs (i::l) with
   |none=>mH (i::l) fun j=>xY P tt d all j fr M (nJ P tt d all qs K n (j::done))
   |some q=>MS tt all q fr (fun fr'=>nJ P tt d all qs K n (q::done) fr' M) (mH (i::l) fun j=>xY P tt d all j fr M (nJ P tt d all qs K n (j::done)))
section
variable {P:Program} {tt:TT} {dm:Option aO} {all:List Oper} {K K':List AV->aj->Prop} {fr:List AV} {M:aj}
theorem nK:∀{qs l:List Nat} {q:Nat},uW qs l=some q->q∈qs/\q∈l
 |[],_,_,h=>by cases h
 |a::qs,l,q,h=>by
  rw[uW] at h
  split at h
  ·rename_i ha
   cases h
   exact⟨List.mem_cons_self,fF.1 ha⟩
  ·obtain⟨h1,h2⟩:=nK h
   exact⟨List.mem_cons_of_mem _ h1,h2⟩
theorem jF {d:Nat} {u:AV}:∀{xs:List Operand},eO d xs=false->xs.map (de (fr.set d u))=xs.map (de fr)
 |[],_=>rfl
 |x::xs,h=>by
  unfold eO at h
  rw[List.any_cons,Bool.or_eq_false_iff] at h
  rw[List.map_cons,List.map_cons,jF (xs:=xs) h.2]
  congr 1
  cases x with
  |tmp t=>
   have hne:t≠d:=fun e=>by subst e;simp at h
   simp only[de,gD,List.getElem?_set_ne (Ne.symm hne)]
  |const v=>rfl
  |func f=>rfl
  |global g=>rfl
theorem pe {o:Oper} {d:Nat} {u:AV} (hg:o.guard=none) (hd:xm d o.dst=true) (hu:eO d (aN o.op)=false):bJ P tt dm all o (fr.set d u) M K=bJ P tt dm all o fr M fun fr' M'=>K (fr'.set d u) M':=by
 unfold bJ jY
 rw[hg]
 simp only[eU,eQ]
 rw[jF hu]
 congr 1
 funext w M'
 congr 1
 cases hdst:o.dst with
 |none=>rfl
 |some e=>
  rw[hdst] at hd
  have hne:e≠d:=fun h=>by subst h;simp[xm] at hd
  simp only[cu]
  exact List.set_comm _ _ (Ne.symm hne)
theorem ly {o:Oper} (hg:o.guard=none) (h:∀w M',K (cu fr o.dst w) M'=K' (cu fr o.dst w) M'):bJ P tt dm all o fr M K=bJ P tt dm all o fr M K':=by
 unfold bJ jY
 rw[hg]
 simp only[eU,eQ,h]
theorem nL {o:Oper} {d:Nat} {u:AV} (hg:o.guard=none) (hd:o.dst=some d) (hq:Mg o.op=true) (hu:so tt o.op ((aN o.op).map (de fr))= .val u):bJ P tt dm all o fr M K=K (fr.set d u) M:=by
 have hs:∀us K',bh P tt dm o us M K'=gc (so tt o.op us) fun u=>K' u M:=fun us K'=>by
  unfold bh
  unfold Mg at hq
  split at hq
  all_goals first
   |(rename_i e;rw[e];cases dm with
     |none=>rfl
     |some r=>cases r<;>rfl)
   |exact absurd hq (by decide)
 unfold bJ jY
 rw[hg]
 simp only[eU,eQ,hs,hu,hd,cu,gc,bO]
theorem xn {f:Nat->Prop}:∀{l:List Nat},mH l f↔∀i∈l,f i
 |[]=>by simp[mH]
 |i::l=>by rw[mH,xn];simp
theorem cA {done:List Nat} {i:Nat}:i∈cw all done↔i∉done/\∃o,all[i]? =some o/\∀e∈o.after.toList,Region.binds .any e=true->e.on<all.length/\e.on∈done:=by
 unfold cw
 rw[List.mem_filter,List.mem_range]
 constructor
 ·rintro⟨h1,h2⟩
  rw[Bool.and_eq_true] at h2
  refine⟨fun h=>?_,?_⟩
  ·have:=h2.1;rw[fF.2 h] at this;cases this
  ·have h3:=h2.2
   cases ho:all[i]? with
   |none=>rw[ho] at h3;cases h3
   |some o=>
    rw[ho] at h3
    refine⟨o,rfl,fun e he hb=>?_⟩
    have:=List.all_eq_true.1 h3 e he
    rw[hb] at this
    simpa[fF] using this
 ·rintro⟨h1,o,ho,h2⟩
  have hlt:i<all.length:=by
   rcases Nat.lt_or_ge i all.length with h|h
   ·exact h
   ·rw[List.getElem?_eq_none h] at ho;cases ho
  refine⟨hlt,?_⟩
  rw[ho,Bool.and_eq_true]
  refine⟨?_,List.all_eq_true.2 fun e he=>?_⟩
  ·cases hh:done.any (Nat.beq i) with
   |true=>exact absurd (fF.1 hh) h1
   |false=>rfl
  ·cases hb:Region.binds .any e with
   |false=>rfl
   |true=>
    obtain⟨h3,h4⟩:=h2 e he hb
    have:done.any (Nat.beq e.on)=true:=fF.2 h4
    simp[h3,this]
theorem rF {d1 d2:List Nat} (h:∀i,i∈d1↔i∈d2):cw all d1=cw all d2:=by
 have e:∀i,d1.any (Nat.beq i)=d2.any (Nat.beq i):=fun i=>by
  rw[Bool.eq_iff_iff,fF,fF,h]
 unfold cw
 simp only[e]
theorem ku:∀(n:Nat) (d1 d2:List Nat) (_:∀i,i∈d1↔i∈d2),aZ P tt dm all K n d1=aZ P tt dm all K n d2
 |0,d1,d2,h=>by
  funext fr M
  rw[aZ,aZ,rF h]
 |n+1,d1,d2,h=>by
  funext fr M
  rw[aZ,aZ,rF h]
  cases cw all d2 with
  |nil=>rfl
  |cons i l=>
   have e:∀j,aZ P tt dm all K n (j::d1)=aZ P tt dm all K n (j::d2):=fun j=>ku n _ _ fun i=>by rw[List.mem_cons,List.mem_cons,h]
   simp only[e]
theorem d5 {n:Nat} {done:List Nat} (h:cw all done≠[]):aZ P tt dm all K (n+1) done fr M↔∀j∈cw all done,xY P tt dm all j fr M (aZ P tt dm all K n (j::done)):=by
 rw[aZ]
 cases hr:cw all done with
 |nil=>exact absurd hr h
 |cons i l=>exact xn
theorem cd {j:Nat} {o:Oper} (h:all[j]? =some o):xY P tt dm all j fr M K=bJ P tt dm all o fr M K:=by
 unfold xY;rw[h]
theorem Iy {q:Nat} {o:Oper} {d:Nat} (hok:CA all q=true) (ho:all[q]? =some o) (hd:o.dst=some d):∀(n:Nat) (done:List Nat) (fr:List AV) (M:aj) (u:AV),q∈cw all done->so tt o.op ((aN o.op).map (de fr))= .val u->
  (aZ P tt dm all K (n+1) done fr M↔aZ P tt dm all K n (q::done) (fr.set d u) M):=by
 unfold CA at hok
 rw[ho] at hok
 simp only[hd,Bool.and_eq_true,Option.isNone_iff_eq_none] at hok
 obtain⟨⟨hqt,hg⟩,hall⟩:=hok
 have hpair:∀j x,all[j]? =some x->j≠q->x.guard=none/\xm d x.dst=true/\(eO d (aN x.op)=false\/fZ x q=true)/\∀e,x.dst=some e->eO e (aN o.op)=false\/fZ o j=true:=fun j x hx hne=>by
  have hj:j<all.length:=by
   rcases Nat.lt_or_ge j all.length with h|h
   ·exact h
   ·rw[List.getElem?_eq_none h] at hx;cases hx
  have:=List.all_eq_true.1 hall j (List.mem_range.2 hj)
  rw[hx] at this
  have hb:Nat.beq j q=false:=by cases h:Nat.beq j q with|false=>rfl|true=>exact absurd (Nat.eq_of_beq_eq_true h) hne
  simp only[hb,Bool.false_or,Bool.and_eq_true,Option.isNone_iff_eq_none,Bool.or_eq_true,Bool.not_eq_true'] at this
  obtain⟨⟨⟨h1,h2⟩,h3⟩,h4⟩:=this
  refine⟨h1,h2,h3,fun e he=>?_⟩
  rw[he] at h4
  simpa using h4
 have edge:∀{x:Oper} {k:Nat} {done:List Nat},fZ x k=true->(∀e∈x.after.toList,Region.binds .any e=true->e.on<all.length/\e.on∈done)->k∈done:=fun{x k done} he h=>by
  unfold fZ at he
  obtain⟨e,hm,hb⟩:=List.any_eq_true.1 he
  rw[Bool.and_eq_true] at hb
  have:=(h e hm hb.1).2
  rwa [Nat.eq_of_beq_eq_true hb.2] at this
 intro n
 induction n with
 |zero=>
  intro done fr M u hq hu
  have hne:cw all done≠[]:=List.ne_nil_of_mem hq
  rw[d5 hne]
  constructor
  ·intro h
   have:=h q hq
   rw[cd ho,nL hg hd hqt hu] at this
   exact this
  ·intro h j hj
   by_cases e:j=q
   ·subst e
    rw[cd ho,nL hg hd hqt hu]
    exact h
   ·exfalso
    have hj2:j∈cw all (q::done):=by
     rw[cA] at hj⊢
     obtain⟨h1,x,hx,h2⟩:=hj
     exact⟨fun h=>by rcases List.mem_cons.1 h with h|h;exact e h;exact h1 h,x,hx,fun e he hb=>⟨(h2 e he hb).1,List.mem_cons_of_mem _ (h2 e he hb).2⟩⟩
    rw[aZ] at h
    cases hr:cw all (q::done) with
    |nil=>rw[hr] at hj2;cases hj2
    |cons a l=>rw[hr] at h;exact h
 |succ m ih=>
  intro done fr M u hq hu
  have hne:cw all done≠[]:=List.ne_nil_of_mem hq
  rw[d5 hne]
  constructor
  ·intro h
   have:=h q hq
   rw[cd ho,nL hg hd hqt hu] at this
   exact this
  ·intro h j hj
   by_cases e:j=q
   ·subst e
    rw[cd ho,nL hg hd hqt hu]
    exact h
   ·have hj':=cA.1 hj
    have hq':=cA.1 hq
    obtain⟨h1,x,hx,h2⟩:=hj'
    obtain⟨g1,o',ho',g2⟩:=hq'
    rw[ho] at ho';cases ho'
    obtain⟨p1,p2,p3,p4⟩:=hpair j x hx e
    have hj2:j∈cw all (q::done):=cA.2 ⟨fun h=>by rcases List.mem_cons.1 h with h|h;exact e h;exact h1 h,x,hx,fun e he hb=>⟨(h2 e he hb).1,List.mem_cons_of_mem _ (h2 e he hb).2⟩⟩
    have hq2:q∈cw all (j::done):=cA.2 ⟨fun h=>by rcases List.mem_cons.1 h with h|h;exact e h.symm;exact g1 h,o,ho,fun e he hb=>⟨(g2 e he hb).1,List.mem_cons_of_mem _ (g2 e he hb).2⟩⟩
    have hux:eO d (aN x.op)=false:=p3.resolve_right fun he=>g1 (edge he h2)
    have h3:=(d5 (List.ne_nil_of_mem hj2)).1 h j hj2
    rw[cd hx,pe p1 p2 hux] at h3
    rw[cd hx]
    refine Eq.mp (ly p1 fun w M'=>?_) h3
    rw[ku m (j::q::done) (q::j::done) fun i=>by simp only[List.mem_cons];exact⟨fun h=>by rcases h with h|h|h<;>simp[h],fun h=>by rcases h with h|h|h<;>simp[h]⟩]
    refine propext (ih (j::done) (cu fr x.dst w) M' u hq2 ?_).symm
    rw[<-hu]
    congr 1
    cases hxd:x.dst with
    |none=>rfl
    |some e2=>
     have:eO e2 (aN o.op)=false:=(p4 e2 hxd).resolve_right fun he=>h1 (edge he g2)
     exact jF this
theorem rG {qs:List Nat} (hqs:qs.all (CA all)=true):∀(n:Nat) (done:List Nat),nJ P tt dm all qs K n done=aZ P tt dm all K n done
 |0,done=>by
  funext fr M
  rw[nJ,aZ]
  cases cw all done<;>rfl
 |n+1,done=>by
  funext fr M
  have e:∀j,nJ P tt dm all qs K n (j::done)=aZ P tt dm all K n (j::done):=fun j=>rG hqs n _
  rw[nJ]
  simp only[e]
  cases hr:cw all done with
  |nil=>rw[aZ,hr]
  |cons i l=>
   have hk:aZ P tt dm all K (n+1) done fr M=mH (i::l) fun j=>xY P tt dm all j fr M (aZ P tt dm all K n (j::done)):=by rw[aZ,hr]
   simp only
   cases hf:uW qs (i::l) with
   |none=>exact hk.symm
   |some q=>
    simp only
    obtain⟨h1,h2⟩:=nK hf
    have hok:=List.all_eq_true.1 hqs q h1
    rw[<-hk]
    unfold MS
    cases ho:all[q]? with
    |none=>rfl
    |some o=>
     simp only[eU]
     cases hu:so tt o.op ((aN o.op).map (de fr)) with
     |val u=>
      simp only[bO,eQ]
      have hok':=hok
      unfold CA at hok'
      rw[ho] at hok'
      cases hd:o.dst with
      |none=>simp only[hd] at hok';cases hok'
      |some d=>exact propext (Iy hok ho hd n done fr M u (by rw[hr];exact h2) hu).symm
     |_=>rfl
end
theorem lz {P:Program} {tt:TT} {ops:List Oper} {fr:List AV} {M:aj} {K:List AV->aj->Prop} (qs:List Nat) (hqs:qs.all (CA ops)=true) (h:nJ P tt (some .own) ops qs K ops.length [] fr M):fG P tt ops fr M K:=
 ni (by rw[rG hqs] at h;exact h)
theorem lA {P:Program} {tt:TT} {ops:List Oper} {fr:List AV} {M:aj} {K:List AV->aj->Prop} (qs:List Nat) (hqs:qs.all (CA ops)=true) (h:nJ P tt none ops qs K ops.length [] fr M):fG P tt ops fr M K:=
 JB (by rw[rG hqs] at h;exact h)
end Go.Proofs.YtekmminpfhacpaaGreatDoor
