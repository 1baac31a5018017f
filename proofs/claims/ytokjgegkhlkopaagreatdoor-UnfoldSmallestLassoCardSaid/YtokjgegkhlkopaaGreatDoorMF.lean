import Derived.Test.YtokjgegkhlkopaaGreatDoorME
import Derived.Test.YtokjgegkhlkopaaGreatDoorMA
set_option linter.unusedVariables false
set_option linter.unusedSimpArgs false
namespace Go.Proofs.YtokjgegkhlkopaaGreatDoor
section
set_option maxRecDepth 100000
def pL (l:List cS):aX:=.row 160 d6 pG l
def Jk (f:ByteArray->Option Int):aX:=.map Value.string (Value.int .i64) f
def MO (p:ao) (s:az) (ex:Bool) (ℓ n:Nat):aX:=.box 158 [.str p.name, .int .i64 p.topology, .sl t0 cR p.states, .sl t0 cR p.messages, .sl t0 cR p.values, .int .i64 p.fault, .sl i0 eE p.resilience, .sl 0 aD p.initial, .sl 0 aD p.leader, .sl au fD p.rules, .int .i64 s.n, .int .i64 s.t, .int .i64 s.f, .bool ex, .mp 7002, .row ℓ n 10]
def pb (p:ao) (s:az) (ex:Bool) (l:List cS) (f:ByteArray->Option Int):List (Nat×aX):=[(7001,MO p s ex 7003 l.length),(7002,Jk f),(7003,pL l)]
theorem FI (a b:ByteArray):(a==b)=decide (a=b):=by
 cases a with|mk a=>
 cases b with|mk b=>
 have h:((ByteArray.mk a==ByteArray.mk b)=true)↔a=b:=by
  show((a==b)=true)↔a=b
  exact beq_iff_eq
 by_cases e:a=b
 ·subst e;rw[decide_eq_true rfl];exact h.2 rfl
 ·rw[decide_eq_false (fun hh=>e (by injection hh))]
  cases hb:(ByteArray.mk a==ByteArray.mk b) with
  |false=>rfl
  |true=>exact absurd (h.1 hb) e
theorem FJ:mB Tryz.prog 9 Value.string:=by
 refine mB.now Tryz.underlying9 (fun a b h=>by cases h;rfl) ?_ ?_ ?_
 ·intro e k w
  have h4:∀n,(Instr.checkKey e (n+1) 9 (Value.string k)).run Tryz.prog w= .ok () w:=fun n=>by
   simp[Instr.checkKey,run_underlying Tryz.underlying9]
  exact h4 9999
 ·intro a b
  refine⟨decide (a=b),?_,?_⟩
  ·simp only[Instr.sameNow,Option.some.injEq]
   exact FI a b
  ·simp
 ·intro k
  have h4:∀n,Instr.sameBits (n+1) (Value.string k) (Value.string k)=true:=fun n=>by simp only[Instr.sameBits];rw[FI];exact decide_eq_true rfl
  exact h4 9999
theorem MP (p:ao) (s:az) (ex:Bool) (l:List cS) (f:ByteArray->Option Int) (c:ap) (hw:bc c=false) (hpl:I7 p c):
  an Tryz.prog 123 [.ptr 7001 0, .agg (bg c)] (ai.ofL (pb p s ex l f)) (fun u M=>u= .str (ij (eV p ex c))/\M=ai.ofL (pb p s ex l f)):=by
 have hc:=aL hw
 have hk:=MK c (by omega) (by omega) (by omega) (by omega)
 have hw2:bc (cx p c)=false:=by rw[CS];exact hw
 have hc2:=aL hw2
 have hk2:=MK (cx p c) (by omega) (by omega) (by omega) (by omega)
 refine an.norm 400 (R:=fun u M=>u= .str (ij (eV p ex c))/\dK (oA (pb p s ex l f)) 400 M (pb p s ex l f)) ?_ ?_
 ·refine an.intro ab ac (pb p s ex l f) Tryz.func123 rfl (by decide) ?_
  conv=>whnf
  refine am rfl ?_
  rw[bN]
  dsimp only[cC,List.set]
  simp only[fW]
  rw[bQ]
  simp only[gv,bh,List.map_cons,List.map_nil,bz,kg,cC]
  dsimp only[dA,pR,po,fZ,List.set]
  rw[aP]
  dsimp only[List.getD,List.set,fx,fW]
  rw[bQ]
  simp only[gv,bh,List.map_cons,List.map_nil,bz,kg,cC]
  cases ex with
  |true=>
   conv=>whnf
   (refine oP (hk) ?_;conv=>whnf)
   exact⟨rfl,(aa)⟩
  |false=>
   conv=>whnf
   refine dR ?_
   conv=>whnf
   (refine oC (zQ p c hw hpl) ?_;conv=>whnf)
   (refine oC (hk2) ?_;conv=>whnf)
   exact⟨rfl,(aa)⟩
 ·rintro u M' ⟨rfl,hM⟩
  exact⟨pb p s ex l f, .str (ij (eV p ex c)),rfl,hM,rfl,rfl,rfl⟩
def jZ (p:ao) (ex:Bool) (l:List cS) (f:ByteArray->Option Int) (o:cS):Int:=match f (ij (eV p ex o.c)) with
 |some i=>i
 |none=>(l.length:Int)
def co (p:ao) (ex:Bool) (l:List cS) (f:ByteArray->Option Int) (o:cS):List cS:=match f (ij (eV p ex o.c)) with
 |some _=>l
 |none=>l++[o]
noncomputable def i7 (p:ao) (ex:Bool) (l:List cS) (f:ByteArray->Option Int) (o:cS):ByteArray->Option Int:=match f (ij (eV p ex o.c)) with
 |some _=>f
 |none=>fJ f (ij (eV p ex o.c)) (l.length:Int)
def yI (p:ao) (s:az) (ex:Bool) (l:List cS) (f:ByteArray->Option Int):List (Nat×aX):=[(7001,MO p s ex 7004 l.length),(7002,Jk f),(7003, .dead),(7004,pL l)]
theorem Bh (p:ao) (s:az) (ex:Bool) (l:List cS) (f:ByteArray->Option Int) (o:cS) (hl:l.length<=100000000) (hw:bc o.c=false) (hpl:I7 p o.c):
  an Tryz.prog 84 [.ptr 7001 0, .agg (pG o)] (ai.ofL (pb p s ex l f)) (fun u M=>u= .int .i64 (jZ p ex l f o)/\M=ai.ofL (yI p s ex (co p ex l f o) (i7 p ex l f o))):=by
 refine an.renorm 400 (R:=fun u M=>u= .int .i64 (jZ p ex l f o)/\((dK [(7001, .old 7001),(7002, .old 7002),(7003, .old 7003),(7004, .old 7003)] 400 M (yI p s ex (co p ex l f o) (i7 p ex l f o)))\/
  (dK [(7001, .old 7001),(7002, .old 7002),(7003, .old 7003),(7004, .old 41)] 400 M (yI p s ex (co p ex l f o) (i7 p ex l f o))))) ?_ ?_
 ·refine an.intro ab ac (pb p s ex l f) Tryz.func84 rfl (by decide) ?_
  conv=>whnf
  refine am rfl ?_
  conv=>whnf
  refine an.call (oA (pb p s ex l f)) (pb p s ex l f) 400 rfl (aa) (aa) (MP p s ex l f o.c hw hpl) ?_
  rintro u M' ⟨rfl,rfl⟩
  refine⟨oA (pb p s ex l f),pb p s ex l f, .str (ij (eV p ex o.c)),rfl,(aa),rfl,?_⟩
  conv=>whnf
  refine Aj FJ (ij (eV p ex o.c)) rfl (fun b hb=>?_) (fun hn=>?_)
  ·conv=>whnf
   have e1:co p ex l f o=l:=by simp only[co,hb]
   have e2:i7 p ex l f o=f:=by simp only[i7,hb]
   refine⟨by simp only[jZ,hb];rfl, .inl ?_⟩
   rw[e1,e2]
   exact(aa)
  ·conv=>whnf
   refine GR FJ (ij (eV p ex o.c)) (l.length:Int) rfl rfl ?_
   conv=>whnf
   refine IY (by decide+kernel) ?_
   conv=>whnf
   refine cA d6 pG [o] rfl ?_
   conv=>whnf
   refine iH ?_
   conv=>whnf
   refine cB [o] rfl lI ?_
   conv=>whnf
   have e1:co p ex l f o=l++[o]:=by simp only[co,hn]
   have e2:i7 p ex l f o=fJ f (ij (eV p ex o.c)) (l.length:Int):=by simp only[i7,hn]
   refine⟨by simp only[jZ,hn];rfl, .inr ?_⟩
   rw[e1,e2]
   exact(aa)
 ·rintro u M' ⟨rfl,hM|hM⟩
  ·exact⟨_,_, .int .i64 (jZ p ex l f o),rfl,hM,rfl,rfl,rfl⟩
  ·exact⟨_,_, .int .i64 (jZ p ex l f o),rfl,hM,rfl,rfl,rfl⟩
section
variable {P:Program}
theorem ae.of_tup {f:FuncId} {args:List AV} {R:AV->Prop} (n:Nat) (h:an P f args (ai.ofL []) (fun u M=>∃us,u= .tup us/\jL us M fun us' _=>R (.tup us')/\bX n (.tup us')=true)):ae P f args R:=by
 rw[eM]
 rw[bT] at h
 refine⟨h.1,?_⟩
 intro S F vs w hg hs hf hd hv
 refine(h.2 S F (fun _=>none) vs w ⟨hs,hf,hd,by simp,by simp[ai.ofL,ai.none],by simp,hg⟩ (hv.rv _)).mono ?_
 rintro e w' ⟨v,u,M',S',ρ',rfl,⟨us,rfl,hR⟩,hle,_,hM',hr,hw⟩
 obtain⟨xs,rfl,hxs⟩:=hr.tup_inv
 obtain⟨us',M2,S2,⟨hR2,hp⟩,hle2,hvs2,hM2⟩:=gN _ _ _ _ _ hR hxs hM'
 exact⟨_,_,S2,rfl,hR2,ag.le_trans hle hle2,hM2.sw,hM2.fw,hM2.sf,jI n hp (RV.tup_mk hvs2),hw⟩
end
theorem FK (p:ao) (s:az) (c:ap) (x:aQ) (h:c9 p s c) (he:cz p s c x false):ae Tryz.prog 87 [.agg (iP p s c), .agg (cH x)]
  (fun u=>(bo c (aH p x) x/\u= .tup [.agg (bg (cb c (aH p x) x)), .int .i64 0])\/(¬bo c (aH p x) x/\u= .tup [.agg EZ, .int .i64 4])):=by
 refine ae.of_tup 5 ((Kx p s c x h he).mono ?_)
 rintro u M (⟨ha,rfl,h1,h2,h3,h4⟩|⟨hn,rfl⟩)
 ·refine⟨_,rfl,?_⟩
  unfold bG at h1 h2 h3 h4
  simp only[Cn,jL,dJ]
  rw[h1]
  dsimp only
  rw[ai.set_ne _ _ (by decide:(1002:Nat)≠1001),h2]
  dsimp only
  rw[ai.set_ne _ _ (by decide:(1003:Nat)≠1002),ai.set_ne _ _ (by decide:(1003:Nat)≠1001),h3]
  dsimp only
  rw[ai.set_ne _ _ (by decide:(1004:Nat)≠1003),ai.set_ne _ _ (by decide:(1004:Nat)≠1002),ai.set_ne _ _ (by decide:(1004:Nat)≠1001),h4]
  exact⟨.inl ⟨ha,rfl⟩,rfl⟩
 ·exact⟨_,rfl, .inr ⟨hn,rfl⟩,rfl⟩
end
section
set_option maxRecDepth 100000
set_option maxHeartbeats 16000000
abbrev iV:=List cS×(ByteArray->Option Int)
noncomputable def Jl (p:ao) (ex:Bool) (c:ap) (i:Int) (y:iV) (x:aQ):iV:=(co p ex y.1 y.2 ⟨cb c (aH p x) x,i,x⟩,i7 p ex y.1 y.2 ⟨cb c (aH p x) x,i,x⟩)
noncomputable def my (p:ao) (ex:Bool) (c:ap) (i:Int) (pre:List aQ) (y:iV):iV:=pre.foldl (Jl p ex c i) y
theorem FL (p:ao) (ex:Bool) (c:ap) (i:Int) (pre:List aQ) (x:aQ) (y:iV):my p ex c i (pre++[x]) y=Jl p ex c i (my p ex c i pre y) x:=by
 unfold my;rw[List.foldl_append];rfl
theorem sm (p:ao) (ex:Bool) (l:List cS) (f:ByteArray->Option Int) (o:cS):(co p ex l f o).length<=l.length+1:=by
 unfold co;split<;>simp
theorem Bi (p:ao) (ex:Bool) (c:ap) (i:Int):∀(pre:List aQ) (y:iV),(my p ex c i pre y).1.length<=y.1.length+pre.length
 |[],y=>by simp[my]
 |x::pre,y=>by
  have h1:=Bi p ex c i pre (Jl p ex c i y x)
  have h2:=sm p ex y.1 y.2 ⟨cb c (aH p x) x,i,x⟩
  simp only[my,List.foldl_cons,List.length_cons] at h1⊢
  have:(Jl p ex c i y x).1.length<=y.1.length+1:=h2
  omega
def Ok (p:ao) (s:az) (ex:Bool) (c:ap) (y:iV) (e:Int):List (Nat×aX):=
 [(2, .box 104 [.ptr 7001 0]),(4, .box 42 [.int .i64 e]),(5, .box 163 (iP p s c)),(7001,MO p s ex 7004 y.1.length),(7002,Jk y.2),(7003, .dead),(7004,pL y.1)]
def OL (r:Loop) (b:Bool):Loop:=match b with
 |true=>ug r
 |false=>r
def OM (b:Bool):Int:=match b with
 |true=>4
 |false=>0
noncomputable def LD (p:ao) (s:az) (ex:Bool) (c:ap) (i:Int) (y0:iV) (r:Loop) (x:List aQ×Bool):List (Nat×aX):=(5000, .obj (.loop (OL r x.2)))::Ok p s ex c (my p ex c i x.1 y0) (OM x.2)
def GC:b8:=[(7001, .old 7001),(7002, .old 7002),(7003, .old 7003),(7004, .old 7004)]
theorem H8 (p:ao) (s:az) (ex:Bool) (y0:iV) (i:Nat) (o:cS) (ho:y0.1.getD i d6=o) (hi:i<y0.1.length) (hy:y0.1.length<=50000000) (h:c9 p s o.c)
  (hok:∀x,cz p s o.c x false->bo o.c (aH p x) x->bc (cb o.c (aH p x) x)=false/\I7 p (cb o.c (aH p x) x)):
  an Tryz.prog 122 [.ptr 7001 0, .int .i64 (i:Int)] (ai.ofL (pb p s ex y0.1 y0.2)) (fun u M=>
   ((∀x∈d9 p s o.c p.rules.length,bo o.c (aH p x) x)/\u= .int .i64 0/\
    M=ai.ofL (yI p s ex (my p ex o.c i (d9 p s o.c p.rules.length) y0).1 (my p ex o.c i (d9 p s o.c p.rules.length) y0).2))\/
   ((∃x,cz p s o.c x false/\¬bo o.c (aH p x) x)/\u= .int .i64 4/\∃z:iV,M=ai.ofL (yI p s ex z.1 z.2))):=by
 have hw:=h.wide
 refine an.renorm 400 (R:=fun u M=>((∀x∈d9 p s o.c p.rules.length,bo o.c (aH p x) x)/\u= .int .i64 0/\
    dK GC 400 M (yI p s ex (my p ex o.c i (d9 p s o.c p.rules.length) y0).1 (my p ex o.c i (d9 p s o.c p.rules.length) y0).2))\/
   ((∃x,cz p s o.c x false/\¬bo o.c (aH p x) x)/\u= .int .i64 4/\∃z,dK GC 400 M (yI p s ex (my p ex o.c i z y0).1 (my p ex o.c i z y0).2))) ?_ ?_
 case refine_2=>
  rintro u M (⟨h1,rfl,h2⟩|⟨h1,rfl,z,h2⟩)
  ·exact⟨GC,_, .int .i64 0,rfl,h2,rfl, .inl ⟨h1,rfl,rfl⟩⟩
  ·exact⟨GC,_, .int .i64 4,rfl,h2,rfl, .inr ⟨h1,rfl,my p ex o.c i z y0,rfl⟩⟩
 refine an.introY ab ac (pb p s ex y0.1 y0.2) Tryz.func122 rfl (by decide) ?_
 conv=>whnf
 refine yU ?_
 conv=>whnf
 refine am rfl ?_
 conv=>whnf
 refine dI ?_
 conv=>whnf
 refine nI ?_
 rw[tN]
 conv=>whnf
 rw[ho]
 (refine oC (Km p s o.c hw) ?_;conv=>whnf)
 (refine oP (Fm p s o.c) ?_;conv=>whnf)
 refine fm.subM cX (aM.by_ [(2, .old 2),(4, .old 4),(5, .old 5),(7001, .old 7001),(7002, .old 7002),(7003, .old 7003),(7004, .old 7003)] (Ok p s ex o.c y0 0) 400 rfl (aa) (aa)) ?_
 refine fm.range 5000 [2,4,5,7001,7002,7003] (fun M'=>(∀x∈d9 p s o.c p.rules.length,bo o.c (aH p x) x)/\∃r,M'=ai.ofL (LD p s ex o.c i y0 r (d9 p s o.c p.rules.length,false)))
  (fun M'=>(∃x,cz p s o.c x false/\¬bo o.c (aH p x) x)/\∃r z,M'=ai.ofL (LD p s ex o.c i y0 r (z,true))) rfl rfl rfl rfl (fun l r h1 h2 h3 h4 h5=>?_) ?_ ?_
 ·rw[ai.ofL_cons]
  refine(Jd p s o.c h (uf 5000 l r _) (fun pre (x:List aQ×Bool)=>x=(pre,false)/\∀z∈pre,bo o.c (aH p z) z) (fun x=>x.2=true/\∃x,cz p s o.c x false/\¬bo o.c (aH p x) x) (LD p s ex o.c i y0 r) (fun x=>⟨rfl,aa⟩) (fun _=>rfl) _ (fun pre x st hpre hx hst=>?_) ([],false) ⟨rfl,fun z hz=>by cases hz⟩).mono ?_
  ·obtain⟨rfl,hap⟩:=hx
   refine YS.round ab ac h1 h2 h3 h4 h5 rfl ?_
   conv=>whnf
   refine⟨rfl,?_⟩
   conv=>whnf
   refine an.of_pure (n:=5) (FK p s o.c st h hst) rfl ?_
   rintro _ (⟨ha,rfl⟩|⟨hn,rfl⟩)
   ·conv=>whnf
    refine fI ?_
    conv=>whnf
    have hlen:=Bi p ex o.c i pre y0
    have hsn:=FL p ex o.c i pre st y0
    refine an.call [(7001, .old 7001),(7002, .old 7002),(7003, .old 7004)] (pb p s ex (my p ex o.c (i:Int) pre y0).1 (my p ex o.c (i:Int) pre y0).2) 400 rfl (aa) (aa) (Bh p s ex (my p ex o.c (i:Int) pre y0).1 (my p ex o.c (i:Int) pre y0).2 ⟨cb o.c (aH p st) st,i,st⟩ (by omega) (hok st hst ha).1 (hok st hst ha).2) ?_
    rintro u M' ⟨rfl,rfl⟩
    refine⟨[(7001, .old 7001),(7002, .old 7002),(7004, .old 7003),(7005, .old 7004)],[(7001,MO p s ex 7005 (co p ex (my p ex o.c (i:Int) pre y0).1 (my p ex o.c (i:Int) pre y0).2 ⟨cb o.c (aH p st) st,i,st⟩).length),(7002,Jk (i7 p ex (my p ex o.c (i:Int) pre y0).1 (my p ex o.c (i:Int) pre y0).2 ⟨cb o.c (aH p st) st,i,st⟩)),(7004, .dead),(7005,pL (co p ex (my p ex o.c (i:Int) pre y0).1 (my p ex o.c (i:Int) pre y0).2 ⟨cb o.c (aH p st) st,i,st⟩))], .int .i64 (jZ p ex (my p ex o.c (i:Int) pre y0).1 (my p ex o.c (i:Int) pre y0).2 ⟨cb o.c (aH p st) st,i,st⟩),rfl,(aa),rfl,?_⟩
    conv=>whnf
    refine⟨rfl,LD p s ex o.c i y0 r (pre++[st],false),?_,_,rfl, .inl ⟨rfl,rfl,fun z hz=>?_⟩⟩
    ·unfold LD
     dsimp only
     rw[hsn]
     exact aM.by_ [(5000, .old 5000),(2, .old 2),(4, .old 4),(5, .old 5),(7001, .old 7001),(7002, .old 7002),(7003, .old 7003),(7004, .old 7005)] _ 400 rfl (aa) trivial
    ·rcases List.mem_append.1 hz with hz|hz
     ·exact hap z hz
     ·rw[List.mem_singleton] at hz;subst hz;exact ha
   ·conv=>whnf
    refine tI ?_
    conv=>whnf
    exact⟨rfl,LD p s ex o.c i y0 r (pre,true),aM.by_ [(5000, .old 5000),(2, .old 2),(4, .old 4),(5, .old 5),(7001, .old 7001),(7002, .old 7002),(7003, .old 7003),(7004, .old 7004)] _ 400 rfl (aa) trivial,_,rfl, .inr ⟨rfl,rfl,st,hst,hn⟩⟩
  ·rintro u M ⟨x,rfl,⟨rfl,hap⟩|⟨h6,h7⟩⟩
   ·exact .inl ⟨rfl,hap,r,rfl⟩
   ·obtain⟨z,b⟩:=x
    dsimp only at h6
    subst h6
    exact .inr ⟨rfl,h7,r,z,rfl⟩
 ·rintro M' ⟨hap,r,rfl⟩
  conv=>whnf
  exact .inl ⟨hap,rfl,aa⟩
 ·rintro M' ⟨hno,r,z,rfl⟩
  conv=>whnf
  exact .inr ⟨hno,rfl,z,aa⟩
noncomputable def FM (p:ao) (ex:Bool) (y:iV) (c:ap):iV:=(co p ex y.1 y.2 ⟨c,-1,aR⟩,i7 p ex y.1 y.2 ⟨c,-1,aR⟩)
noncomputable def inF (p:ao) (ex:Bool) (cs:List ap):iV:=cs.foldl (FM p ex) ([],fun _=>none)
theorem FN (p:ao) (ex:Bool) (cs:List ap) (c:ap):inF p ex (cs++[c])=FM p ex (inF p ex cs) c:=by
 unfold inF;rw[List.foldl_append];rfl
theorem Bj (p:ao) (ex:Bool):∀(cs:List ap) (y:iV),(cs.foldl (FM p ex) y).1.length<=y.1.length+cs.length
 |[],y=>by simp
 |c::cs,y=>by
  have h1:=Bj p ex cs (FM p ex y c)
  have h2:(FM p ex y c).1.length<=y.1.length+1:=sm p ex y.1 y.2 ⟨c,-1,aR⟩
  simp only[List.foldl_cons,List.length_cons] at h1⊢
  omega
theorem H9 (p:ao) (ex:Bool) (cs:List ap):(inF p ex cs).1.length<=cs.length:=by
 have:=Bj p ex cs ([],fun _=>none)
 simpa[inF] using this
theorem FO (p:ao) (ex:Bool) {cs:List ap} {k:Nat} (h:k<cs.length):inF p ex (cs.take (k+1))=FM p ex (inF p ex (cs.take k)) (cs.getD k aC):=by
 have e:cs.getD k aC=cs[k]:=by rw[gD,gL h];rfl
 rw[List.take_succ_eq_append_getElem h,FN,e]
theorem FP (p:ao) (q:bn) (s:az) (ex:Bool) (l:List ap) (e:Int) (hI:ae Tryz.prog 121 [.agg (bf p), .agg (eh q), .agg (b7 s)] (fun u=>u=pA l e))
  (hl:l.length<=100000) (hw:∀k,k<l.length->bc (l.getD k aC)=false/\I7 p (l.getD k aC)):
  an Tryz.prog 81 [.agg (bf p), .agg (eh q), .agg (b7 s), .bool ex] (ai.ofL []) (fun u M=>
   (e≠0/\u= .tup [.val (.pointer none), .int .i64 e])\/(e=0/\u= .tup [.ptr 7001 0, .int .i64 0]/\M=ai.ofL (pb p s ex (inF p ex l).1 (inF p ex l).2))):=by
 refine an.intro ab ac [] Tryz.func81 rfl (by decide) ?_
 conv=>whnf
 refine am rfl ?_
 conv=>whnf
 refine am rfl ?_
 conv=>whnf
 refine am rfl ?_
 conv=>whnf
 (refine oP (hI) ?_;conv=>whnf)
 refine ah ?_ ?_<;>(intro h1;conv=>whnf)
 ·exact .inl ⟨h1,rfl⟩
 have h0:e=0:=by omega
 subst h0
 refine GQ Value.string (Value.int .i64) ?_
 conv=>whnf
 refine yU ?_
 conv=>whnf
 refine aE.loopF ab ac (fun k:Nat=>k<=l.length) (fun k=>[(12, .ptr 7001 0),(28, .top),(29, .top),(30, .top),(33, .int .i64 (k:Int))]) (fun k=>pb p s ex (inF p ex (l.take k)).1 (inF p ex (l.take k)).2) (fun k=>l.length-k) 0 (Nat.zero_le _) ?_;conv=>whnf
 refine⟨aM.by_ [(7001, .old 30),(7002, .old 28),(7003, .nil 10)] _ 400 rfl (aa) (aa),?_⟩
 rintro k hk
 conv=>whnf
 refine ah ?_ ?_<;>(intro g1;conv=>whnf)
 ·have hlt:k<l.length:=by omega
  refine nI ?_
  conv=>whnf
  have hlen:=H9 p ex (l.take k)
  rw[List.length_take] at hlen
  have e1:=FO p ex hlt
  have hwk:=hw k hlt
  rw[tN]
  refine an.call [(7001, .old 7001),(7002, .old 7002),(7003, .old 7003)] (pb p s ex (inF p ex (l.take k)).1 (inF p ex (l.take k)).2) 400 rfl (aa) (aa) (Bh p s ex (inF p ex (l.take k)).1 (inF p ex (l.take k)).2 ⟨l.getD k aC,-1,aR⟩ (by omega) hwk.1 hwk.2) ?_
  rintro u M' ⟨rfl,rfl⟩
  refine⟨GC,yI p s ex (FM p ex (inF p ex (l.take k)) (l.getD k aC)).1 (FM p ex (inF p ex (l.take k)) (l.getD k aC)).2, .int .i64 (jZ p ex (inF p ex (l.take k)).1 (inF p ex (l.take k)).2 ⟨l.getD k aC,-1,aR⟩),rfl,(aa),rfl,?_⟩
  conv=>whnf
  repeat' ((first|refine nI ?_|refine aI ?_|refine tI ?_|refine fI ?_|fail);conv=>whnf)
  refine⟨k+1,?_,by omega,by dsimp only;omega⟩
  dsimp only
  rw[e1]
  exact aM.by_ [(7001, .old 7001),(7002, .old 7002),(7003, .old 7004)] _ 400 rfl (aa) (aa)
 ·obtain rfl:k=l.length:=by omega
  rw[List.take_length]
  exact .inr ⟨rfl,rfl,rfl⟩
end
section
set_option maxRecDepth 100000
section
variable {α:Type} (g:α->ap)
open Classical in
noncomputable def lN (l:List α) (o:α):List α:=if g o∈l.map g then l else l++[o]
noncomputable def dQ (l:List α) (os:List α):List α:=os.foldl (lN g) l
theorem dS {l:List α} {o:α} (h:g o∈l.map g):lN g l o=l:=if_pos h
theorem fo {l:List α} {o:α} (h:g o∉l.map g):lN g l o=l++[o]:=if_neg h
theorem sn (l:List α) (o:α):∃m,lN g l o=l++m:=by
 by_cases h:g o∈l.map g
 ·exact⟨[],by rw[dS g h,List.append_nil]⟩
 ·exact⟨[o],fo g h⟩
theorem FQ {l:List α} (o:α) (h:(l.map g).Nodup):((lN g l o).map g).Nodup:=by
 by_cases hm:g o∈l.map g
 ·rw[dS g hm];exact h
 ·rw[fo g hm,List.map_append,List.map_singleton,List.nodup_append]
  exact⟨h,by simp,fun a ha b hb e=>by rw[List.mem_singleton] at hb;subst hb;subst e;exact hm ha⟩
theorem FR (l:List α) (o:α):g o∈(lN g l o).map g:=by
 by_cases hm:g o∈l.map g
 ·rw[dS g hm];exact hm
 ·rw[fo g hm];simp
theorem H' {l:List α} {o k:α} (h:k∈lN g l o):k∈l\/k=o:=by
 by_cases hm:g o∈l.map g
 ·rw[dS g hm] at h;exact .inl h
 ·rw[fo g hm] at h;simpa using h
theorem dF (l:List α) (o:α) (os:List α):dQ g l (o::os)=dQ g (lN g l o) os:=rfl
theorem CX (l:List α):dQ g l []=l:=rfl
theorem j6:∀(os l:List α),∃m,dQ g l os=l++m
 |[],l=>⟨[],by rw[List.append_nil];rfl⟩
 |o::os,l=>by
  obtain⟨m1,h1⟩:=sn g l o
  obtain⟨m2,h2⟩:=j6 os (lN g l o)
  exact⟨m1++m2,by rw[dF,h2,h1,List.append_assoc]⟩
theorem j7:∀(os:List α) {l:List α},(l.map g).Nodup->((dQ g l os).map g).Nodup
 |[],_,h=>h
 |o::os,_,h=>j7 os (FQ g o h)
theorem mm {os l:List α} {k:ap} (h:k∈l.map g):k∈(dQ g l os).map g:=by
 obtain⟨m,e⟩:=j6 g os l
 rw[e,List.map_append]
 exact List.mem_append_left _ h
theorem iy:∀(os l:List α),∀o∈os,g o∈(dQ g l os).map g
 |[],_,_,hk=>absurd hk List.not_mem_nil
 |o::os,l,k,hk=>by
  rcases List.mem_cons.1 hk with rfl|hk
  ·rw[dF];exact mm g (FR g l k)
  ·exact iy os (lN g l o) k hk
theorem lO:∀(os:List α) {l:List α} {k:α},k∈dQ g l os->k∈l\/k∈os
 |[],_,_,h=>.inl h
 |o::os,l,k,h=>by
  rcases lO os (l:=lN g l o) h with h|h
  ·rcases H' g h with h|h
   ·exact .inl h
   ·exact .inr (by rw[h];exact List.mem_cons_self)
  ·exact .inr (List.mem_cons_of_mem _ h)
theorem FS {β:Type} (f:β->α) (l:List β) (o:β):(lN (fun b=>g (f b)) l o).map f=lN g (l.map f) (f o):=by
 have e:l.map (fun b=>g (f b))=(l.map f).map g:=by rw[List.map_map];rfl
 by_cases hm:g (f o)∈(l.map f).map g
 ·rw[dS g hm,dS (fun b=>g (f b)) (by rw[e];exact hm)]
 ·rw[fo g hm,fo (fun b=>g (f b)) (by rw[e];exact hm),List.map_append,List.map_singleton]
theorem ur {β:Type} (f:β->α):∀(os l:List β),(dQ (fun b=>g (f b)) l os).map f=dQ g (l.map f) (os.map f)
 |[],_=>rfl
 |o::os,l=>by rw[dF,ur f os,FS,List.map_cons,dF]
end
theorem vR.rdy {p:ao} {s:az} {c d:ap} (h:vR c d):c9 p s c->c9 p s d:=by
 induction h with
 |refl c=>exact id
 |step a b h _ ih=>exact fun hr=>ih (Ff hr h.1.1 h.1.2)
theorem c9.can {p:ao} {s:az} {c:ap} (h:c9 p s c):c9 p s (cx p c):=by
 by_cases ht:p.topology=1
 ·exact(vS ht h.plain.2.1 h.plain.2.2).rdy h
 ·rw[kJ c ht];exact h
section
variable {p:ao} {q:bn} {s:az} {ex:Bool}
theorem Rp.can {c:ap} (h:Rp p q s false c):Rp p q s false (cx p c):=by
 obtain⟨hr,n,d,h1,h2⟩:=h
 exact⟨hr.can,n,d,h1,h2.trans (CU p hr.plain.2.2).symm⟩
structure ut (p:ao) (q:bn) (s:az) (ex:Bool) (L:List ap) (i:Nat):Prop where
 rep:∀c∈L,Rp p q s ex c
 dis:(L.map (eV p ex)).Nodup
 ini:∀c,lH p q s c->eV p ex c∈L.map (eV p ex)
 stp:∀j,j<i->∀x,cz p s (L.getD j aC) x false->bo (L.getD j aC) (aH p x) x/\eV p ex (cb (L.getD j aC) (aH p x) x)∈L.map (eV p ex)
 le:i<=L.length
theorem ut.zero (cs:List ap) (h1:∀c∈cs,Rp p q s ex c) (h2:∀c,lH p q s c->eV p ex c∈cs.map (eV p ex)):ut p q s ex (dQ (eV p ex) [] cs) 0:=by
 refine⟨fun c hc=>?_,j7 _ _ (by simp),fun c hc=>?_,fun j hj=>absurd hj (Nat.not_lt_zero _),Nat.zero_le _⟩
 ·rcases lO _ cs hc with h|h
  ·exact absurd h List.not_mem_nil
  ·exact h1 c h
 ·obtain⟨d,hd,e⟩:=List.mem_map.1 (h2 c hc)
  rw[<-e]
  exact iy _ cs [] d hd
theorem FT {α:Type} {l m:List α} {d:α} {j:Nat} (h:j<l.length):(l++m).getD j d=l.getD j d:=by
 rw[gD,gD,List.getElem?_append_left h]
theorem ut.next {L:List ap} {i:Nat} (h:ut p q s ex L i) (hi:i<L.length) (cs:List ap) (h1:∀d∈cs,Rp p q s ex d)
  (h2:∀x,cz p s (L.getD i aC) x false->bo (L.getD i aC) (aH p x) x/\eV p ex (cb (L.getD i aC) (aH p x) x)∈cs.map (eV p ex)):ut p q s ex (dQ (eV p ex) L cs) (i+1):=by
 obtain⟨m,e⟩:=j6 (eV p ex) cs L
 refine⟨fun c hc=>?_,j7 _ _ h.dis,fun c hc=>mm _ (h.ini c hc),fun j hj x=>?_,by rw[e,List.length_append];omega⟩
 ·rcases lO _ cs hc with h|h
  ·exact ut.rep ‹_› c h
  ·exact h1 c h
 ·rw[e,FT (by omega),<-e]
  intro he
  by_cases hj2:j<i
  ·exact⟨(h.stp j hj2 x he).1,mm _ (h.stp j hj2 x he).2⟩
  ·have:j=i:=by omega
   subst this
   refine⟨(h2 x he).1,?_⟩
   obtain⟨d,hd,e2⟩:=List.mem_map.1 (h2 x he).2
   rw[<-e2]
   exact iy _ cs L d hd
theorem ut.clo {L:List ap} {i:Nat} (h:ut p q s ex L i) (hi:L.length<=i):un p q s ex L:=
 ⟨h.rep,h.dis,h.ini,fun c hc x he=>by
  obtain⟨j,hj,rfl⟩:=bp aC hc
  exact h.stp j (by omega) x he⟩
theorem ut.over (S:fV p q s) {L:List ap} {i:Nat} (h:ut p q s ex L i) {j:Nat} (hj:j<L.length) (ho:∃x,cz p s (L.getD j aC) x false/\¬bo (L.getD j aC) (aH p x) x):¬∃M,un p q s ex M/\M.length<=4000:=by
 obtain⟨x,he,ha⟩:=ho
 exact fun⟨M,hM,_⟩=>Fx S (h.rep _ (aG aC hj)) he ha ⟨M,hM⟩
theorem ut.many (S:fV p q s) {L:List ap} {i:Nat} (h:ut p q s ex L i) (hn:4000<L.length):¬∃M,un p q s ex M/\M.length<=4000:=Fy S h.rep h.dis hn
def iX (p:ao) (ex:Bool) (o:cS):ap:=eV p ex o.c
structure yg (p:ao) (q:bn) (s:az) (l:List cS) (lo n:Nat):Prop where
 le:lo<=l.length
 og:eH p q s l
 dis:(l.map (iX p false)).Nodup
 kd:∀k,KD p q s n k↔k∈l.map (iX p false)
 kl:∀k,(∃m,m<n/\KD p q s m k)↔k∈(l.take lo).map (iX p false)
 len:∀i r xs,lo<=i->i<l.length->cP l i r xs->xs.length=n
 on:∀m,m<n->KM p q s m
 few:lo<=4000
 num:n<=lo
theorem Ia {c:ap} (h:Wn p q s 0 c):lH p q s c:=by
 cases h with
 |ini h=>exact h
theorem yg.zero (cs:List ap) (h1:∀c,c∈cs↔lH p q s c):yg p q s (dQ (iX p false) [] (cs.map fun c=>⟨c,-1,aR⟩)) 0 0:=by
 have hog:∀(os:List ap) (l:List cS),(∀c∈os,lH p q s c)->eH p q s l->(∀i,i<l.length->(bu l i).src=-1)->eH p q s (dQ (iX p false) l (os.map fun c=>⟨c,-1,aR⟩))/\∀i,i<(dQ (iX p false) l (os.map fun c=>⟨c,-1,aR⟩)).length->(bu (dQ (iX p false) l (os.map fun c=>⟨c,-1,aR⟩)) i).src=-1:=by
  intro os
  induction os with
  |nil=>exact fun l _ h1 h2=>⟨h1,h2⟩
  |cons c os ih=>
   intro l h1 h2 h3
   rw[List.map_cons,dF]
   refine ih _ (fun d hd=>h1 d (List.mem_cons_of_mem _ hd)) ?_ ?_
   ·by_cases hm:iX p false ⟨c,-1,aR⟩∈l.map (iX p false)
    ·rw[dS _ hm];exact h2
    ·rw[fo _ hm];exact h2.ini (h1 c List.mem_cons_self) _
   ·by_cases hm:iX p false ⟨c,-1,aR⟩∈l.map (iX p false)
    ·rw[dS _ hm];exact h3
    ·rw[fo _ hm]
     intro i hi
     rw[List.length_append,List.length_singleton] at hi
     by_cases e:i<l.length
     ·rw[dl e];exact h3 i e
     ·have:i=l.length:=by omega
      subst this
      rw[iT]
 obtain⟨g1,g2⟩:=hog cs [] (fun c hc=>(h1 c).1 hc) eH.nil (fun i hi=>absurd hi (Nat.not_lt_zero _))
 refine⟨Nat.zero_le _,g1,j7 _ _ (by simp),fun k=>⟨?_,?_⟩,fun k=>⟨?_,?_⟩,?_,fun m hm=>absurd hm (Nat.not_lt_zero _),by omega,Nat.le_refl _⟩
 ·rintro⟨m,c,hm,hw,rfl⟩
  obtain rfl:m=0:=by omega
  exact iy (iX p false) _ [] ⟨c,-1,aR⟩ (List.mem_map.2 ⟨c,(h1 c).2 (Ia hw),rfl⟩)
 ·intro hk
  obtain⟨o,ho,rfl⟩:=List.mem_map.1 hk
  rcases lO _ _ ho with h|h
  ·exact absurd h List.not_mem_nil
  ·obtain⟨c,hc,rfl⟩:=List.mem_map.1 h
   exact⟨0,c,Nat.le_refl _, .ini ((h1 c).1 hc),rfl⟩
 ·rintro⟨m,hm,_⟩;omega
 ·intro hk;simp at hk
 ·intro i r xs _ hi hc
  cases hc with
  |root _=>rfl
  |step hj h _=>have:=g2 i hi;omega
theorem yg.wn {l:List cS} {lo n:Nat} (h:yg p q s l lo n) {i:Nat} (h1:lo<=i) (h2:i<l.length):Wn p q s n (bu l i).c:=by
 obtain⟨r,xs,hc⟩:=cP.ex h.og i h2
 have:=hc.wn h.og h2
 rw[h.len i r xs h1 h2 hc] at this
 exact this
theorem Bk {l:List cS} {i:Nat} (h:i<l.length):bu l i∈l:=aG d6 h
theorem FU {l:List cS} {lo:Nat} {k:ap} (h:k∈(l.take lo).map (iX p ex)):∃i,i<lo/\i<l.length/\iX p ex (bu l i)=k:=by
 obtain⟨o,ho,rfl⟩:=List.mem_map.1 h
 obtain⟨i,hi,rfl⟩:=bp d6 ho
 rw[List.length_take] at hi
 refine⟨i,by omega,by omega,?_⟩
 congr 1
 unfold bu
 rw[gD,gD,List.getElem?_take,if_pos (by omega)]
theorem FV {l:List cS} {lo i:Nat} (h:i<lo) (hl:i<l.length):iX p ex (bu l i)∈(l.take lo).map (iX p ex):=by
 refine List.mem_map.2 ⟨bu l i,?_,rfl⟩
 have e:bu l i=(l.take lo).getD i d6:=by
  unfold bu
  rw[gD,gD,List.getElem?_take,if_pos h]
 rw[e]
 exact aG d6 (by rw[List.length_take];omega)
theorem yg.near {l:List cS} {lo n:Nat} (h:yg p q s l lo n) {k:ap} (hk:KD p q s n k):(∃m,m<n/\KD p q s m k)\/∃i,lo<=i/\i<l.length/\iX p false (bu l i)=k:=by
 obtain⟨o,ho,e⟩:=List.mem_map.1 ((h.kd k).1 hk)
 obtain⟨i,hi,rfl⟩:=bp d6 ho
 by_cases hlo:lo<=i
 ·exact .inr ⟨i,hlo,hi,e⟩
 ·left
  rw[h.kl,<-e]
  exact FV (by omega) hi
theorem yg.end_iff {l:List cS} {lo n:Nat} (h:yg p q s l lo n):sa p q s n↔lo=l.length:=by
 constructor
 ·intro he
  by_cases hlt:lo<l.length
  ·exfalso
   have h1:=(h.kl _).1 (he _ ((h.kd _).2 (List.mem_map.2 ⟨bu l lo,Bk hlt,rfl⟩)))
   obtain⟨i,hi1,hi2,e⟩:=FU h1
   have hd:=List.pairwise_iff_getElem.1 h.dis i lo (by rw[List.length_map];omega) (by rw[List.length_map];omega) hi1
   rw[List.getElem_map,List.getElem_map] at hd
   unfold bu at e
   rw[gD,gL hi2,gD,gL hlt] at e
   exact hd e
  ·have:=h.le
   omega
 ·intro e k hk
  rw[h.kl,e,List.take_length]
  exact(h.kd k).1 hk
theorem yg.few_iff {l:List cS} {lo n:Nat} (h:yg p q s l lo n):Fz p q s n↔l.length<=4000:=by
 constructor
 ·rintro⟨L,h1,h2⟩
  have:=oj h.dis (m:=L) fun k hk=>h2 k ((h.kd k).2 hk)
  rw[List.length_map] at this
  omega
 ·intro hl
  exact⟨l.map (iX p false),by rw[List.length_map];exact hl,fun k hk=>(h.kd k).1 hk⟩
theorem yg.bad_iff (S:fV p q s) {l:List cS} {lo n:Nat} (h:yg p q s l lo n):uo p q s n↔∃i,lo<=i/\i<l.length/\s9 p q (bu l i).c:=by
 constructor
 ·rintro⟨c,hw,hb⟩
  rcases h.near ⟨n,c,Nat.le_refl _,hw,rfl⟩ with ⟨m,hm,j,d,hj,hwd,e⟩|⟨i,h1,h2,e⟩
  ·exact absurd ⟨d,hwd,(vT (hwd.rdy S) (hw.rdy S) e).2 hb⟩ (h.on j (by omega)).2.1
  ·exact⟨i,h1,h2,(vT ((h.wn h1 h2).rdy S) (hw.rdy S) e).2 hb⟩
 ·rintro⟨i,h1,h2,hb⟩
  exact⟨_,h.wn h1 h2,hb⟩
theorem yg.over_iff (S:fV p q s) {l:List cS} {lo n:Nat} (h:yg p q s l lo n):zR p q s n↔∃i,lo<=i/\i<l.length/\∃x,cz p s (bu l i).c x false/\¬bo (bu l i).c (aH p x) x:=by
 constructor
 ·rintro⟨c,x,hw,he,ha⟩
  rcases h.near ⟨n,c,Nat.le_refl _,hw,rfl⟩ with ⟨m,hm,j,d,hj,hwd,e⟩|⟨i,h1,h2,e⟩
  ·obtain⟨y,k1,k2,k3,_⟩:=oh (hw.rdy S) (hwd.rdy S) e.symm he
   refine absurd ⟨d,y,hwd,k1,?_⟩ (h.on j (by omega)).2.2.2
   rw[k2];exact fun hh=>ha (k3.1 hh)
  ·obtain⟨y,k1,k2,k3,_⟩:=oh (hw.rdy S) ((h.wn h1 h2).rdy S) e.symm he
   refine⟨i,h1,h2,y,k1,?_⟩
   rw[k2];exact fun hh=>ha (k3.1 hh)
 ·rintro⟨i,h1,h2,x,he,ha⟩
  exact⟨_,x,h.wn h1 h2,he,ha⟩
structure vX (p:ao) (q:bn) (s:az) (l0:List cS) (lo:Nat) (l:List cS) (i:Nat):Prop where
 pre:∃m,l=l0++m
 og:eH p q s l
 dis:(l.map (iX p false)).Nodup
 src:∀j,l0.length<=j->j<l.length->∃k:Nat,lo<=k/\k<l0.length/\(bu l j).src=(k:Int)
 stp:∀j,lo<=j->j<i->∀x,cz p s (bu l0 j).c x false->bo (bu l0 j).c (aH p x) x/\eV p false (cb (bu l0 j).c (aH p x) x)∈l.map (iX p false)
theorem vX.zero {l:List cS} {lo n:Nat} (h:yg p q s l lo n):vX p q s l lo l lo:=
 ⟨⟨[],by simp⟩,h.og,h.dis,fun j h1 h2=>by omega,fun j h1 h2=>by omega⟩
theorem vX.same {l0 l:List cS} {lo i j:Nat} (h:vX p q s l0 lo l i) (hj:j<l0.length):bu l j=bu l0 j:=by
 obtain⟨m,e⟩:=h.pre
 rw[e,dl hj]
def Ib (p:ao) (c:ap) (i:Nat) (x:aQ):cS:=⟨cb c (aH p x) x,(i:Int),x⟩
theorem eH.exs {c:ap} {i:Nat}:∀(xs:List aQ) {l:List cS},eH p q s l->i<l.length->(bu l i).c=c->(∀x∈xs,cz p s c x false/\bo c (aH p x) x)->eH p q s (dQ (iX p ex) l (xs.map (Ib p c i)))
 |[],_,h,_,_,_=>h
 |x::xs,l,h,hi,hc,hx=>by
  rw[List.map_cons,dF]
  obtain⟨m,e⟩:=sn (iX p ex) l (Ib p c i x)
  refine eH.exs xs ?_ (by rw[e,List.length_append];omega) (by rw[e,dl hi];exact hc) fun y hy=>hx y (List.mem_cons_of_mem _ hy)
  by_cases hm:iX p ex (Ib p c i x)∈l.map (iX p ex)
  ·rw[dS _ hm];exact h
  ·rw[fo _ hm]
   have h1:=hx x List.mem_cons_self
   subst hc
   exact h.stp hi h1.1 h1.2
theorem FW {os l:List cS} (P:Int->Prop) (h:∀o∈os,P o.src) {j:Nat} (h1:l.length<=j) (h2:j<(dQ (iX p ex) l os).length):P (bu (dQ (iX p ex) l os) j).src:=by
 induction os generalizing l with
 |nil=>rw[CX] at h2;omega
 |cons o os ih=>
  rw[dF] at h2⊢
  by_cases hj:(lN (iX p ex) l o).length<=j
  ·exact ih (fun k hk=>h k (List.mem_cons_of_mem _ hk)) hj h2
  ·obtain⟨m,e⟩:=j6 (iX p ex) os (lN (iX p ex) l o)
   rw[e,dl (by omega)]
   by_cases hm:iX p ex o∈l.map (iX p ex)
   ·rw[dS _ hm] at hj;omega
   ·rw[fo _ hm] at hj⊢
    rw[List.length_append,List.length_singleton] at hj
    have:j=l.length:=by omega
    subst this
    rw[iT]
    exact h o List.mem_cons_self
theorem vX.next {l0 l:List cS} {lo i:Nat} (h:vX p q s l0 lo l i) (h1:lo<=i) (h2:i<l0.length) (xs:List aQ) (hxs:∀x,x∈xs↔cz p s (bu l0 i).c x false) (ha:∀x∈xs,bo (bu l0 i).c (aH p x) x):
  vX p q s l0 lo (dQ (iX p false) l (xs.map (Ib p (bu l0 i).c i))) (i+1):=by
 obtain⟨m0,e0⟩:=h.pre
 obtain⟨m,e⟩:=j6 (iX p false) (xs.map (Ib p (bu l0 i).c i)) l
 have hl:l0.length<=l.length:=by rw[e0,List.length_append];omega
 refine⟨⟨m0++m,by rw[e,e0,List.append_assoc]⟩,eH.exs xs h.og (by omega) (by rw[h.same h2]) fun x hx=>⟨(hxs x).1 hx,ha x hx⟩,j7 _ _ h.dis,fun j g1 g2=>?_,fun j g1 g2 x he=>?_⟩
 ·by_cases hj:j<l.length
  ·rw[e,dl hj];exact h.src j g1 hj
  ·exact FW (p:=p) (ex:=false) (fun k=>∃k':Nat,lo<=k'/\k'<l0.length/\k=(k':Int)) (fun o ho=>by
    obtain⟨x,_,rfl⟩:=List.mem_map.1 ho
    exact⟨i,h1,h2,rfl⟩) (by omega) g2
 ·by_cases hj:j<i
  ·exact⟨(h.stp j g1 hj x he).1,mm _ (h.stp j g1 hj x he).2⟩
  ·have:j=i:=by omega
   subst this
   have hx:=(hxs x).2 he
   refine⟨ha x hx,?_⟩
   exact iy (iX p false) _ l (Ib p (bu l0 j).c j x) (List.mem_map.2 ⟨x,hx,rfl⟩)
theorem vX.done (S:fV p q s) {l0 l:List cS} {lo n:Nat} (h0:yg p q s l0 lo n) (h:vX p q s l0 lo l l0.length) (hlt:lo<l0.length) (hb:∀i,lo<=i->i<l0.length->¬s9 p q (bu l0 i).c) (hf:l0.length<=4000):yg p q s l l0.length (n+1):=by
 obtain⟨m0,e0⟩:=h.pre
 have hl:l0.length<=l.length:=by rw[e0,List.length_append];omega
 have hlen:∀i r xs,l0.length<=i->i<l.length->cP l i r xs->xs.length=n+1:=by
  intro i r xs g1 g2 hc
  obtain⟨k,k1,k2,k3⟩:=h.src i g1 g2
  cases hc with
  |root hs=>omega
  |@step _ j _ xs' hj hs hc'=>
   have:j=k:=by omega
   subst this
   obtain⟨r2,ys,hy⟩:=cP.ex h0.og j k2
   have hy':cP l j r2 ys:=by rw[e0];exact hy.app k2
   obtain⟨_,e⟩:=hc'.one hy'
   rw[List.length_append,List.length_singleton,e,h0.len j r2 ys k1 k2 hy]
 have hkd0:∀k,KD p q s n k->k∈l.map (iX p false):=fun k hk=>by
  rw[e0,List.map_append]
  exact List.mem_append_left _ ((h0.kd k).1 hk)
 refine⟨hl,h.og,h.dis,fun k=>⟨?_,?_⟩,fun k=>?_,hlen,fun m hm=>?_,hf,by have:=h0.num;omega⟩
 ·rintro⟨m,c,hm,hw,rfl⟩
  by_cases hmn:m<=n
  ·exact hkd0 _ ⟨m,c,hmn,hw,rfl⟩
  ·obtain rfl:m=n+1:=by omega
   cases hw with
   |@stp _ d x hw he ha=>
    rcases h0.near ⟨n,d,Nat.le_refl _,hw,rfl⟩ with ⟨m,hm,hk⟩|⟨i,g1,g2,e⟩
    ·exact hkd0 _ ((hk.step S (hw.rdy S) he ha).mono (by omega))
    ·obtain⟨y,k1,k2,k3,k4⟩:=oh (hw.rdy S) ((h0.wn g1 g2).rdy S) e.symm he
     have:=(h.stp i g1 g2 y k1).2
     rw[k2] at this
     rw[k4]
     exact this
 ·intro hk
  obtain⟨o,ho,rfl⟩:=List.mem_map.1 hk
  obtain⟨i,hi,rfl⟩:=bp d6 ho
  by_cases hil:i<l0.length
  ·have e:l.getD i d6=bu l0 i:=h.same hil
   rw[e]
   exact((h0.kd _).2 (List.mem_map.2 ⟨_,Bk hil,rfl⟩)).mono (by omega)
  ·obtain⟨r,xs,hc⟩:=cP.ex h.og i hi
   have hw:=hc.wn h.og hi
   rw[hlen i r xs (by omega) hi hc] at hw
   exact⟨n+1,_,Nat.le_refl _,hw,rfl⟩
 ·have et:l.take l0.length=l0:=by rw[e0];simp
  rw[et,<-h0.kd]
  constructor
  ·rintro⟨m,hm,hk⟩;exact hk.mono (by omega)
  ·intro hk;exact⟨n,by omega,hk⟩
 ·by_cases hmn:m<n
  ·exact h0.on m hmn
  ·obtain rfl:m=n:=by omega
   refine⟨fun he=>by have:=h0.end_iff.1 he;omega,fun hh=>?_,h0.few_iff.2 hf,fun hh=>?_⟩
   ·obtain⟨i,g1,g2,g3⟩:=(h0.bad_iff S).1 hh
    exact hb i g1 g2 g3
   ·obtain⟨i,g1,g2,x,g3,g4⟩:=(h0.over_iff S).1 hh
    exact g4 (h.stp i g1 g2 x g3).1
end
end
end Go.Proofs.YtokjgegkhlkopaaGreatDoor
