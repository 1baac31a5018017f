import Derived.Test.YtblcpnmnibcbbaaGreatDoorME
import Derived.Test.YtblcpnmnibcbbaaGreatDoorMA
set_option linter.unusedVariables false
set_option linter.unusedSimpArgs false
namespace Go.Proofs.YtblcpnmnibcbbaaGreatDoor
section
set_option maxRecDepth 100000
def vM (l:List dy):bj:=.row 178 hZ Cu l
def Ib (f:ByteArray->Option Int):bj:=.map Value.string (Value.int .i64) f
def Ic (p:aq) (s:aB) (ex:Bool) (ℓ n:Nat):bj:=.box 176 [.str p.name, .int .i64 p.topology, .sl t0 gU p.states, .sl t0 gU p.messages, .sl t0 gU p.values, .int .i64 p.fault, .sl nq lD p.resilience, .sl 0 aD p.initial, .sl 0 aD p.leader, .sl au iY p.rules, .int .i64 s.n, .int .i64 s.t, .int .i64 s.f, .bool ex, .mp 7002, .row ℓ n 10]
def qD (p:aq) (s:aB) (ex:Bool) (l:List dy) (f:ByteArray->Option Int):List (Nat×bj):=[(7001,Ic p s ex 7003 l.length),(7002,Ib f),(7003,vM l)]
theorem CM (a b:ByteArray):(a==b)=decide (a=b):=by
 cases a with|mk a=>
 cases b with|mk b=>
 have h:((ByteArray.mk a==ByteArray.mk b)=true)↔a=b:=by
  show((a==b)=true)↔a=b
  exact beq_iff_eq
 by_cases e:a=b
 ·subst e;rw[decide_eq_true rfl];exact h.2 rfl
 ·rw[decide_eq_false (fun hh=>e (by injection hh))]
  cases hb:(ByteArray.mk a==ByteArray.mk b) with
  |false=>rfl
  |true=>exact absurd (h.1 hb) e
theorem CN:jL Tryz.prog 9 Value.string:=by
 refine jL.now Tryz.underlying9 (fun a b h=>by cases h;rfl) ?_ ?_ ?_
 ·intro e k w
  have h4:∀n,(Instr.checkKey e (n+1) 9 (Value.string k)).run Tryz.prog w= .ok () w:=fun n=>by
   simp[Instr.checkKey,run_underlying Tryz.underlying9]
  exact h4 9999
 ·intro a b
  refine⟨decide (a=b),?_,?_⟩
  ·simp only[Instr.sameNow,Option.some.injEq]
   exact CM a b
  ·simp
 ·intro k
  have h4:∀n,Instr.sameBits (n+1) (Value.string k) (Value.string k)=true:=fun n=>by simp only[Instr.sameBits];rw[CM];exact decide_eq_true rfl
  exact h4 9999
theorem Ie (p:aq) (s:aB) (ex:Bool) (l:List dy) (f:ByteArray->Option Int) (c:ap) (hw:aX c=false) (hpl:Fh p c):
  ar Tryz.prog 146 [.ptr 7001 0, .agg (aY c)] (ah.ofL (qD p s ex l f)) (fun u M=>u= .str (gx (d0 p ex c))/\M=ah.ofL (qD p s ex l f)):=by
 have hc:=aG hw
 have hk:=H1 c (by omega) (by omega) (by omega) (by omega)
 have hw2:aX (bU p c)=false:=by rw[zJ];exact hw
 have hc2:=aG hw2
 have hk2:=H1 (bU p c) (by omega) (by omega) (by omega) (by omega)
 refine ar.norm 400 (R:=fun u M=>u= .str (gx (d0 p ex c))/\dS (lO (qD p s ex l f)) 400 M (qD p s ex l f)) ?_ ?_
 ·refine ar.intro ab ac (qD p s ex l f) Tryz.func146 rfl (by decide) ?_
  conv=>whnf
  refine am rfl ?_
  rw[bn]
  dsimp only[ca,List.set]
  simp only[dq]
  rw[bB]
  simp only[gv,aJ,List.map_cons,List.map_nil,bf,g9,ca]
  dsimp only[cm,om,nQ,fg,List.set]
  rw[aK]
  dsimp only[List.getD,List.set,cN,dq]
  rw[bB]
  simp only[gv,aJ,List.map_cons,List.map_nil,bf,g9,ca]
  cases ex with
  |true=>
   conv=>whnf
   (refine oP (hk) ?_;conv=>whnf)
   exact⟨rfl,(ai)⟩
  |false=>
   conv=>whnf
   refine dR ?_
   conv=>whnf
   (refine oC (wY p c hw hpl) ?_;conv=>whnf)
   (refine oC (hk2) ?_;conv=>whnf)
   exact⟨rfl,(ai)⟩
 ·rintro u M' ⟨rfl,hM⟩
  exact⟨qD p s ex l f, .str (gx (d0 p ex c)),rfl,hM,rfl,rfl,rfl⟩
def lM (p:aq) (ex:Bool) (l:List dy) (f:ByteArray->Option Int) (o:dy):Int:=match f (gx (d0 p ex o.c)) with
 |some i=>i
 |none=>(l.length:Int)
def de (p:aq) (ex:Bool) (l:List dy) (f:ByteArray->Option Int) (o:dy):List dy:=match f (gx (d0 p ex o.c)) with
 |some _=>l
 |none=>l++[o]
noncomputable def kJ (p:aq) (ex:Bool) (l:List dy) (f:ByteArray->Option Int) (o:dy):ByteArray->Option Int:=match f (gx (d0 p ex o.c)) with
 |some _=>f
 |none=>gO f (gx (d0 p ex o.c)) (l.length:Int)
def yd (p:aq) (s:aB) (ex:Bool) (l:List dy) (f:ByteArray->Option Int):List (Nat×bj):=[(7001,Ic p s ex 7004 l.length),(7002,Ib f),(7003, .dead),(7004,vM l)]
theorem Fw (p:aq) (s:aB) (ex:Bool) (l:List dy) (f:ByteArray->Option Int) (o:dy) (hl:l.length<=100000000) (hw:aX o.c=false) (hpl:Fh p o.c):
  ar Tryz.prog 103 [.ptr 7001 0, .agg (Cu o)] (ah.ofL (qD p s ex l f)) (fun u M=>u= .int .i64 (lM p ex l f o)/\M=ah.ofL (yd p s ex (de p ex l f o) (kJ p ex l f o))):=by
 refine ar.renorm 400 (R:=fun u M=>u= .int .i64 (lM p ex l f o)/\((dS [(7001, .old 7001),(7002, .old 7002),(7003, .old 7003),(7004, .old 7003)] 400 M (yd p s ex (de p ex l f o) (kJ p ex l f o)))\/
  (dS [(7001, .old 7001),(7002, .old 7002),(7003, .old 7003),(7004, .old 41)] 400 M (yd p s ex (de p ex l f o) (kJ p ex l f o))))) ?_ ?_
 ·refine ar.intro ab ac (qD p s ex l f) Tryz.func103 rfl (by decide) ?_
  conv=>whnf
  refine am rfl ?_
  conv=>whnf
  refine ar.call (lO (qD p s ex l f)) (qD p s ex l f) 400 rfl (ai) (ai) (Ie p s ex l f o.c hw hpl) ?_
  rintro u M' ⟨rfl,rfl⟩
  refine⟨lO (qD p s ex l f),qD p s ex l f, .str (gx (d0 p ex o.c)),rfl,(ai),rfl,?_⟩
  conv=>whnf
  refine E6 CN (gx (d0 p ex o.c)) rfl (fun b hb=>?_) (fun hn=>?_)
  ·conv=>whnf
   have e1:de p ex l f o=l:=by simp only[de,hb]
   have e2:kJ p ex l f o=f:=by simp only[kJ,hb]
   refine⟨by simp only[lM,hb];rfl, .inl ?_⟩
   rw[e1,e2]
   exact(ai)
  ·conv=>whnf
   refine Hd CN (gx (d0 p ex o.c)) (l.length:Int) rfl rfl ?_
   conv=>whnf
   refine Fb (by decide+kernel) ?_
   conv=>whnf
   refine c8 hZ Cu [o] rfl ?_
   conv=>whnf
   refine jN ?_
   conv=>whnf
   refine eC [o] rfl lI ?_
   conv=>whnf
   have e1:de p ex l f o=l++[o]:=by simp only[de,hn]
   have e2:kJ p ex l f o=gO f (gx (d0 p ex o.c)) (l.length:Int):=by simp only[kJ,hn]
   refine⟨by simp only[lM,hn];rfl, .inr ?_⟩
   rw[e1,e2]
   exact(ai)
 ·rintro u M' ⟨rfl,hM|hM⟩
  ·exact⟨_,_, .int .i64 (lM p ex l f o),rfl,hM,rfl,rfl,rfl⟩
  ·exact⟨_,_, .int .i64 (lM p ex l f o),rfl,hM,rfl,rfl,rfl⟩
section
variable {P:Program}
theorem aa.of_tup {f:FuncId} {args:List AV} {R:AV->Prop} (n:Nat) (h:ar P f args (ah.ofL []) (fun u M=>∃us,u= .tup us/\f5 us M fun us' _=>R (.tup us')/\b9 n (.tup us')=true)):aa P f args R:=by
 rw[fG]
 rw[bP] at h
 refine⟨h.1,?_⟩
 intro S F vs w hg hs hf hd hv
 refine(h.2 S F (fun _=>none) vs w ⟨hs,hf,hd,by simp,by simp[ah.ofL,ah.none],by simp,hg⟩ (hv.rv _)).mono ?_
 rintro e w' ⟨v,u,M',S',ρ',rfl,⟨us,rfl,hR⟩,hle,_,hM',hr,hw⟩
 obtain⟨xs,rfl,hxs⟩:=hr.tup_inv
 obtain⟨us',M2,S2,⟨hR2,hp⟩,hle2,hvs2,hM2⟩:=eE _ _ _ _ _ hR hxs hM'
 exact⟨_,_,S2,rfl,hR2,ae.le_trans hle hle2,hM2.sw,hM2.fw,hM2.sf,ke n hp (RV.tup_mk hvs2),hw⟩
end
theorem GD (p:aq) (s:aB) (c:ap) (x:be) (h:cK p s c) (he:cz p s c x false):aa Tryz.prog 82 [.agg (gV p s c), .agg (cF x)]
  (fun u=>(bh c (aO p x) x/\u= .tup [.agg (aY (cp c (aO p x) x)), .int .i64 0])\/(¬bh c (aO p x) x/\u= .tup [.agg zc, .int .i64 4])):=by
 refine aa.of_tup 5 ((B4 p s c x h he).mono ?_)
 rintro u M (⟨ha,rfl,h1,h2,h3,h4⟩|⟨hn,rfl⟩)
 ·refine⟨_,rfl,?_⟩
  unfold cH at h1 h2 h3 h4
  simp only[wP,f5,dp]
  rw[h1]
  dsimp only
  rw[ah.set_ne _ _ (by decide:(1002:Nat)≠1001),h2]
  dsimp only
  rw[ah.set_ne _ _ (by decide:(1003:Nat)≠1002),ah.set_ne _ _ (by decide:(1003:Nat)≠1001),h3]
  dsimp only
  rw[ah.set_ne _ _ (by decide:(1004:Nat)≠1003),ah.set_ne _ _ (by decide:(1004:Nat)≠1002),ah.set_ne _ _ (by decide:(1004:Nat)≠1001),h4]
  exact⟨.inl ⟨ha,rfl⟩,rfl⟩
 ·exact⟨_,rfl, .inr ⟨hn,rfl⟩,rfl⟩
end
section
set_option maxRecDepth 100000
set_option maxHeartbeats 16000000
abbrev mZ:=List dy×(ByteArray->Option Int)
noncomputable def GZ (p:aq) (ex:Bool) (c:ap) (i:Int) (y:mZ) (x:be):mZ:=(de p ex y.1 y.2 ⟨cp c (aO p x) x,i,x⟩,kJ p ex y.1 y.2 ⟨cp c (aO p x) x,i,x⟩)
noncomputable def lN (p:aq) (ex:Bool) (c:ap) (i:Int) (pre:List be) (y:mZ):mZ:=pre.foldl (GZ p ex c i) y
theorem CO (p:aq) (ex:Bool) (c:ap) (i:Int) (pre:List be) (x:be) (y:mZ):lN p ex c i (pre++[x]) y=GZ p ex c i (lN p ex c i pre y) x:=by
 unfold lN;rw[List.foldl_append];rfl
theorem vN (p:aq) (ex:Bool) (l:List dy) (f:ByteArray->Option Int) (o:dy):(de p ex l f o).length<=l.length+1:=by
 unfold de;split<;>simp
theorem ye (p:aq) (ex:Bool) (c:ap) (i:Int):∀(pre:List be) (y:mZ),(lN p ex c i pre y).1.length<=y.1.length+pre.length
 |[],y=>by simp[lN]
 |x::pre,y=>by
  have h1:=ye p ex c i pre (GZ p ex c i y x)
  have h2:=vN p ex y.1 y.2 ⟨cp c (aO p x) x,i,x⟩
  simp only[lN,List.foldl_cons,List.length_cons] at h1⊢
  have:(GZ p ex c i y x).1.length<=y.1.length+1:=h2
  omega
def Jt (p:aq) (s:aB) (ex:Bool) (c:ap) (y:mZ) (e:Int):List (Nat×bj):=
 [(2, .box 107 [.ptr 7001 0]),(4, .box 42 [.int .i64 e]),(5, .box 151 (gV p s c)),(7001,Ic p s ex 7004 y.1.length),(7002,Ib y.2),(7003, .dead),(7004,vM y.1)]
def JJ (r:Loop) (b:Bool):Loop:=match b with
 |true=>rY r
 |false=>r
def JK (b:Bool):Int:=match b with
 |true=>4
 |false=>0
noncomputable def G0 (p:aq) (s:aB) (ex:Bool) (c:ap) (i:Int) (y0:mZ) (r:Loop) (x:List be×Bool):List (Nat×bj):=(5000, .obj (.loop (JJ r x.2)))::Jt p s ex c (lN p ex c i x.1 y0) (JK x.2)
def EM:c9:=[(7001, .old 7001),(7002, .old 7002),(7003, .old 7003),(7004, .old 7004)]
theorem EN (p:aq) (s:aB) (ex:Bool) (y0:mZ) (i:Nat) (o:dy) (ho:y0.1.getD i hZ=o) (hi:i<y0.1.length) (hy:y0.1.length<=50000000) (h:cK p s o.c)
  (hok:∀x,cz p s o.c x false->bh o.c (aO p x) x->aX (cp o.c (aO p x) x)=false/\Fh p (cp o.c (aO p x) x)):
  ar Tryz.prog 145 [.ptr 7001 0, .int .i64 (i:Int)] (ah.ofL (qD p s ex y0.1 y0.2)) (fun u M=>
   ((∀x∈fA p s o.c p.rules.length,bh o.c (aO p x) x)/\u= .int .i64 0/\
    M=ah.ofL (yd p s ex (lN p ex o.c i (fA p s o.c p.rules.length) y0).1 (lN p ex o.c i (fA p s o.c p.rules.length) y0).2))\/
   ((∃x,cz p s o.c x false/\¬bh o.c (aO p x) x)/\u= .int .i64 4/\∃z:mZ,M=ah.ofL (yd p s ex z.1 z.2))):=by
 have hw:=h.wide
 refine ar.renorm 400 (R:=fun u M=>((∀x∈fA p s o.c p.rules.length,bh o.c (aO p x) x)/\u= .int .i64 0/\
    dS EM 400 M (yd p s ex (lN p ex o.c i (fA p s o.c p.rules.length) y0).1 (lN p ex o.c i (fA p s o.c p.rules.length) y0).2))\/
   ((∃x,cz p s o.c x false/\¬bh o.c (aO p x) x)/\u= .int .i64 4/\∃z,dS EM 400 M (yd p s ex (lN p ex o.c i z y0).1 (lN p ex o.c i z y0).2))) ?_ ?_
 case refine_2=>
  rintro u M (⟨h1,rfl,h2⟩|⟨h1,rfl,z,h2⟩)
  ·exact⟨EM,_, .int .i64 0,rfl,h2,rfl, .inl ⟨h1,rfl,rfl⟩⟩
  ·exact⟨EM,_, .int .i64 4,rfl,h2,rfl, .inr ⟨h1,rfl,lN p ex o.c i z y0,rfl⟩⟩
 refine ar.introY ab ac (qD p s ex y0.1 y0.2) Tryz.func145 rfl (by decide) ?_
 conv=>whnf
 refine Dx ?_
 conv=>whnf
 refine am rfl ?_
 conv=>whnf
 refine dI ?_
 conv=>whnf
 refine nI ?_
 rw[tN]
 conv=>whnf
 rw[ho]
 (refine oC (F6 p s o.c hw) ?_;conv=>whnf)
 (refine oP (Gg p s o.c) ?_;conv=>whnf)
 refine nE.subM i7 (bE.by_ [(2, .old 2),(4, .old 4),(5, .old 5),(7001, .old 7001),(7002, .old 7002),(7003, .old 7003),(7004, .old 7003)] (Jt p s ex o.c y0 0) 400 rfl (ai) (ai)) ?_
 refine nE.range 5000 [2,4,5,7001,7002,7003] (fun M'=>(∀x∈fA p s o.c p.rules.length,bh o.c (aO p x) x)/\∃r,M'=ah.ofL (G0 p s ex o.c i y0 r (fA p s o.c p.rules.length,false)))
  (fun M'=>(∃x,cz p s o.c x false/\¬bh o.c (aO p x) x)/\∃r z,M'=ah.ofL (G0 p s ex o.c i y0 r (z,true))) rfl rfl rfl rfl (fun l r h1 h2 h3 h4 h5=>?_) ?_ ?_
 ·rw[ah.ofL_cons]
  refine(HU p s o.c h (zD 5000 l r _) (fun pre (x:List be×Bool)=>x=(pre,false)/\∀z∈pre,bh o.c (aO p z) z) (fun x=>x.2=true/\∃x,cz p s o.c x false/\¬bh o.c (aO p x) x) (G0 p s ex o.c i y0 r) (fun x=>⟨rfl,ai⟩) (fun _=>rfl) _ (fun pre x st hpre hx hst=>?_) ([],false) ⟨rfl,fun z hz=>by cases hz⟩).mono ?_
  ·obtain⟨rfl,hap⟩:=hx
   refine YS.round ab ac h1 h2 h3 h4 h5 rfl ?_
   conv=>whnf
   refine⟨rfl,?_⟩
   conv=>whnf
   refine ar.of_pure (n:=5) (GD p s o.c st h hst) rfl ?_
   rintro _ (⟨ha,rfl⟩|⟨hn,rfl⟩)
   ·conv=>whnf
    refine fI ?_
    conv=>whnf
    have hlen:=ye p ex o.c i pre y0
    have hsn:=CO p ex o.c i pre st y0
    refine ar.call [(7001, .old 7001),(7002, .old 7002),(7003, .old 7004)] (qD p s ex (lN p ex o.c (i:Int) pre y0).1 (lN p ex o.c (i:Int) pre y0).2) 400 rfl (ai) (ai) (Fw p s ex (lN p ex o.c (i:Int) pre y0).1 (lN p ex o.c (i:Int) pre y0).2 ⟨cp o.c (aO p st) st,i,st⟩ (by omega) (hok st hst ha).1 (hok st hst ha).2) ?_
    rintro u M' ⟨rfl,rfl⟩
    refine⟨[(7001, .old 7001),(7002, .old 7002),(7004, .old 7003),(7005, .old 7004)],[(7001,Ic p s ex 7005 (de p ex (lN p ex o.c (i:Int) pre y0).1 (lN p ex o.c (i:Int) pre y0).2 ⟨cp o.c (aO p st) st,i,st⟩).length),(7002,Ib (kJ p ex (lN p ex o.c (i:Int) pre y0).1 (lN p ex o.c (i:Int) pre y0).2 ⟨cp o.c (aO p st) st,i,st⟩)),(7004, .dead),(7005,vM (de p ex (lN p ex o.c (i:Int) pre y0).1 (lN p ex o.c (i:Int) pre y0).2 ⟨cp o.c (aO p st) st,i,st⟩))], .int .i64 (lM p ex (lN p ex o.c (i:Int) pre y0).1 (lN p ex o.c (i:Int) pre y0).2 ⟨cp o.c (aO p st) st,i,st⟩),rfl,(ai),rfl,?_⟩
    conv=>whnf
    refine⟨rfl,G0 p s ex o.c i y0 r (pre++[st],false),?_,_,rfl, .inl ⟨rfl,rfl,fun z hz=>?_⟩⟩
    ·unfold G0
     dsimp only
     rw[hsn]
     exact bE.by_ [(5000, .old 5000),(2, .old 2),(4, .old 4),(5, .old 5),(7001, .old 7001),(7002, .old 7002),(7003, .old 7003),(7004, .old 7005)] _ 400 rfl (ai) trivial
    ·rcases List.mem_append.1 hz with hz|hz
     ·exact hap z hz
     ·rw[List.mem_singleton] at hz;subst hz;exact ha
   ·conv=>whnf
    refine tI ?_
    conv=>whnf
    exact⟨rfl,G0 p s ex o.c i y0 r (pre,true),bE.by_ [(5000, .old 5000),(2, .old 2),(4, .old 4),(5, .old 5),(7001, .old 7001),(7002, .old 7002),(7003, .old 7003),(7004, .old 7004)] _ 400 rfl (ai) trivial,_,rfl, .inr ⟨rfl,rfl,st,hst,hn⟩⟩
  ·rintro u M ⟨x,rfl,⟨rfl,hap⟩|⟨h6,h7⟩⟩
   ·exact .inl ⟨rfl,hap,r,rfl⟩
   ·obtain⟨z,b⟩:=x
    dsimp only at h6
    subst h6
    exact .inr ⟨rfl,h7,r,z,rfl⟩
 ·rintro M' ⟨hap,r,rfl⟩
  conv=>whnf
  exact .inl ⟨hap,rfl,ai⟩
 ·rintro M' ⟨hno,r,z,rfl⟩
  conv=>whnf
  exact .inr ⟨hno,rfl,z,ai⟩
noncomputable def CP (p:aq) (ex:Bool) (y:mZ) (c:ap):mZ:=(de p ex y.1 y.2 ⟨c,-1,bm⟩,kJ p ex y.1 y.2 ⟨c,-1,bm⟩)
noncomputable def inF (p:aq) (ex:Bool) (cs:List ap):mZ:=cs.foldl (CP p ex) ([],fun _=>none)
theorem CQ (p:aq) (ex:Bool) (cs:List ap) (c:ap):inF p ex (cs++[c])=CP p ex (inF p ex cs) c:=by
 unfold inF;rw[List.foldl_append];rfl
theorem yf (p:aq) (ex:Bool):∀(cs:List ap) (y:mZ),(cs.foldl (CP p ex) y).1.length<=y.1.length+cs.length
 |[],y=>by simp
 |c::cs,y=>by
  have h1:=yf p ex cs (CP p ex y c)
  have h2:(CP p ex y c).1.length<=y.1.length+1:=vN p ex y.1 y.2 ⟨c,-1,bm⟩
  simp only[List.foldl_cons,List.length_cons] at h1⊢
  omega
theorem EO (p:aq) (ex:Bool) (cs:List ap):(inF p ex cs).1.length<=cs.length:=by
 have:=yf p ex cs ([],fun _=>none)
 simpa[inF] using this
theorem CS (p:aq) (ex:Bool) {cs:List ap} {k:Nat} (h:k<cs.length):inF p ex (cs.take (k+1))=CP p ex (inF p ex (cs.take k)) (cs.getD k aA):=by
 have e:cs.getD k aA=cs[k]:=by rw[gD,gL h];rfl
 rw[List.take_succ_eq_append_getElem h,CQ,e]
theorem CT (p:aq) (q:bO) (s:aB) (ex:Bool) (l:List ap) (e:Int) (hI:aa Tryz.prog 144 [.agg (bc p), .agg (gb q), .agg (bW s)] (fun u=>u=nz l e))
  (hl:l.length<=100000) (hw:∀k,k<l.length->aX (l.getD k aA)=false/\Fh p (l.getD k aA)):
  ar Tryz.prog 101 [.agg (bc p), .agg (gb q), .agg (bW s), .bool ex] (ah.ofL []) (fun u M=>
   (e≠0/\u= .tup [.val (.pointer none), .int .i64 e])\/(e=0/\u= .tup [.ptr 7001 0, .int .i64 0]/\M=ah.ofL (qD p s ex (inF p ex l).1 (inF p ex l).2))):=by
 refine ar.intro ab ac [] Tryz.func101 rfl (by decide) ?_
 conv=>whnf
 refine am rfl ?_
 conv=>whnf
 refine am rfl ?_
 conv=>whnf
 refine am rfl ?_
 conv=>whnf
 (refine oP (hI) ?_;conv=>whnf)
 refine ag ?_ ?_<;>(intro h1;conv=>whnf)
 ·exact .inl ⟨h1,rfl⟩
 have h0:e=0:=by omega
 subst h0
 refine Hb Value.string (Value.int .i64) ?_
 conv=>whnf
 refine Dx ?_
 conv=>whnf
 refine aR.loopF ab ac (fun k:Nat=>k<=l.length) (fun k=>[(12, .ptr 7001 0),(28, .top),(29, .top),(30, .top),(33, .int .i64 (k:Int))]) (fun k=>qD p s ex (inF p ex (l.take k)).1 (inF p ex (l.take k)).2) (fun k=>l.length-k) 0 (Nat.zero_le _) ?_;conv=>whnf
 refine⟨bE.by_ [(7001, .old 30),(7002, .old 28),(7003, .nil 10)] _ 400 rfl (ai) (ai),?_⟩
 rintro k hk
 conv=>whnf
 refine ag ?_ ?_<;>(intro g1;conv=>whnf)
 ·have hlt:k<l.length:=by omega
  refine nI ?_
  conv=>whnf
  have hlen:=EO p ex (l.take k)
  rw[List.length_take] at hlen
  have e1:=CS p ex hlt
  have hwk:=hw k hlt
  rw[tN]
  refine ar.call [(7001, .old 7001),(7002, .old 7002),(7003, .old 7003)] (qD p s ex (inF p ex (l.take k)).1 (inF p ex (l.take k)).2) 400 rfl (ai) (ai) (Fw p s ex (inF p ex (l.take k)).1 (inF p ex (l.take k)).2 ⟨l.getD k aA,-1,bm⟩ (by omega) hwk.1 hwk.2) ?_
  rintro u M' ⟨rfl,rfl⟩
  refine⟨EM,yd p s ex (CP p ex (inF p ex (l.take k)) (l.getD k aA)).1 (CP p ex (inF p ex (l.take k)) (l.getD k aA)).2, .int .i64 (lM p ex (inF p ex (l.take k)).1 (inF p ex (l.take k)).2 ⟨l.getD k aA,-1,bm⟩),rfl,(ai),rfl,?_⟩
  conv=>whnf
  repeat' ((first|refine nI ?_|refine aI ?_|refine tI ?_|refine fI ?_|fail);conv=>whnf)
  refine⟨k+1,?_,by omega,by dsimp only;omega⟩
  dsimp only
  rw[e1]
  exact bE.by_ [(7001, .old 7001),(7002, .old 7002),(7003, .old 7004)] _ 400 rfl (ai) (ai)
 ·obtain rfl:k=l.length:=by omega
  rw[List.take_length]
  exact .inr ⟨rfl,rfl,rfl⟩
end
section
set_option maxRecDepth 100000
section
variable {α:Type} (g:α->ap)
open Classical in
noncomputable def jb (l:List α) (o:α):List α:=if g o∈l.map g then l else l++[o]
noncomputable def cG (l:List α) (os:List α):List α:=os.foldl (jb g) l
theorem df {l:List α} {o:α} (h:g o∈l.map g):jb g l o=l:=if_pos h
theorem d8 {l:List α} {o:α} (h:g o∉l.map g):jb g l o=l++[o]:=if_neg h
theorem qv (l:List α) (o:α):∃m,jb g l o=l++m:=by
 by_cases h:g o∈l.map g
 ·exact⟨[],by rw[df g h,List.append_nil]⟩
 ·exact⟨[o],d8 g h⟩
theorem CU {l:List α} (o:α) (h:(l.map g).Nodup):((jb g l o).map g).Nodup:=by
 by_cases hm:g o∈l.map g
 ·rw[df g hm];exact h
 ·rw[d8 g hm,List.map_append,List.map_singleton,List.nodup_append]
  exact⟨h,by simp,fun a ha b hb e=>by rw[List.mem_singleton] at hb;subst hb;subst e;exact hm ha⟩
theorem CV (l:List α) (o:α):g o∈(jb g l o).map g:=by
 by_cases hm:g o∈l.map g
 ·rw[df g hm];exact hm
 ·rw[d8 g hm];simp
theorem EP {l:List α} {o k:α} (h:k∈jb g l o):k∈l\/k=o:=by
 by_cases hm:g o∈l.map g
 ·rw[df g hm] at h;exact .inl h
 ·rw[d8 g hm] at h;simpa using h
theorem CW (l:List α) (o:α):(jb g l o).length<=l.length+1:=by
 by_cases hm:g o∈l.map g
 ·rw[df g hm];omega
 ·rw[d8 g hm];simp
theorem cU (l:List α) (o:α) (os:List α):cG g l (o::os)=cG g (jb g l o) os:=rfl
theorem zR (l:List α):cG g l []=l:=rfl
theorem GE (l os:List α) (o:α):cG g l (os++[o])=jb g (cG g l os) o:=by
 unfold cG;rw[List.foldl_append];rfl
theorem jc:∀(os l:List α),∃m,cG g l os=l++m
 |[],l=>⟨[],by rw[List.append_nil];rfl⟩
 |o::os,l=>by
  obtain⟨m1,h1⟩:=qv g l o
  obtain⟨m2,h2⟩:=jc os (jb g l o)
  exact⟨m1++m2,by rw[cU,h2,h1,List.append_assoc]⟩
theorem jd:∀(os:List α) {l:List α},(l.map g).Nodup->((cG g l os).map g).Nodup
 |[],_,h=>h
 |o::os,_,h=>jd os (CU g o h)
theorem ld {os l:List α} {k:ap} (h:k∈l.map g):k∈(cG g l os).map g:=by
 obtain⟨m,e⟩:=jc g os l
 rw[e,List.map_append]
 exact List.mem_append_left _ h
theorem je:∀(os l:List α),∀o∈os,g o∈(cG g l os).map g
 |[],_,_,hk=>absurd hk List.not_mem_nil
 |o::os,l,k,hk=>by
  rcases List.mem_cons.1 hk with rfl|hk
  ·rw[cU];exact ld g (CV g l k)
  ·exact je os (jb g l o) k hk
theorem kK:∀(os:List α) {l:List α} {k:α},k∈cG g l os->k∈l\/k∈os
 |[],_,_,h=>.inl h
 |o::os,l,k,h=>by
  rcases kK os (l:=jb g l o) h with h|h
  ·rcases EP g h with h|h
   ·exact .inl h
   ·exact .inr (by rw[h];exact List.mem_cons_self)
  ·exact .inr (List.mem_cons_of_mem _ h)
theorem zS:∀(os l:List α),(cG g l os).length<=l.length+os.length
 |[],l=>by simp[cG]
 |o::os,l=>by
  have h1:=zS os (jb g l o)
  have h2:=CW g l o
  rw[cU,List.length_cons]
  omega
theorem CX {β:Type} (f:β->α) (l:List β) (o:β):(jb (fun b=>g (f b)) l o).map f=jb g (l.map f) (f o):=by
 have e:l.map (fun b=>g (f b))=(l.map f).map g:=by rw[List.map_map];rfl
 by_cases hm:g (f o)∈(l.map f).map g
 ·rw[df g hm,df (fun b=>g (f b)) (by rw[e];exact hm)]
 ·rw[d8 g hm,d8 (fun b=>g (f b)) (by rw[e];exact hm),List.map_append,List.map_singleton]
theorem sa {β:Type} (f:β->α):∀(os l:List β),(cG (fun b=>g (f b)) l os).map f=cG g (l.map f) (os.map f)
 |[],_=>rfl
 |o::os,l=>by rw[cU,sa f os,CX,List.map_cons,cU]
end
theorem tm.rdy {p:aq} {s:aB} {c d:ap} (h:tm c d):cK p s c->cK p s d:=by
 induction h with
 |refl c=>exact id
 |step a b h _ ih=>exact fun hr=>ih (Cc hr h.1.1 h.1.2)
theorem cK.can {p:aq} {s:aB} {c:ap} (h:cK p s c):cK p s (bU p c):=by
 by_cases ht:p.topology=1
 ·exact(tn ht h.plain.2.1 h.plain.2.2).rdy h
 ·rw[jG c ht];exact h
section
variable {p:aq} {q:bO} {s:aB} {ex:Bool}
theorem Rp.can {c:ap} (h:Rp p q s false c):Rp p q s false (bU p c):=by
 obtain⟨hr,n,d,h1,h2⟩:=h
 exact⟨hr.can,n,d,h1,h2.trans (zL p hr.plain.2.2).symm⟩
structure sb (p:aq) (q:bO) (s:aB) (ex:Bool) (L:List ap) (i:Nat):Prop where
 rep:∀c∈L,Rp p q s ex c
 dis:(L.map (d0 p ex)).Nodup
 ini:∀c,lf p q s c->d0 p ex c∈L.map (d0 p ex)
 stp:∀j,j<i->∀x,cz p s (L.getD j aA) x false->bh (L.getD j aA) (aO p x) x/\d0 p ex (cp (L.getD j aA) (aO p x) x)∈L.map (d0 p ex)
 le:i<=L.length
theorem sb.zero (cs:List ap) (h1:∀c∈cs,Rp p q s ex c) (h2:∀c,lf p q s c->d0 p ex c∈cs.map (d0 p ex)):sb p q s ex (cG (d0 p ex) [] cs) 0:=by
 refine⟨fun c hc=>?_,jd _ _ (by simp),fun c hc=>?_,fun j hj=>absurd hj (Nat.not_lt_zero _),Nat.zero_le _⟩
 ·rcases kK _ cs hc with h|h
  ·exact absurd h List.not_mem_nil
  ·exact h1 c h
 ·obtain⟨d,hd,e⟩:=List.mem_map.1 (h2 c hc)
  rw[<-e]
  exact je _ cs [] d hd
theorem CY {α:Type} {l m:List α} {d:α} {j:Nat} (h:j<l.length):(l++m).getD j d=l.getD j d:=by
 rw[gD,gD,List.getElem?_append_left h]
theorem sb.next {L:List ap} {i:Nat} (h:sb p q s ex L i) (hi:i<L.length) (cs:List ap) (h1:∀d∈cs,Rp p q s ex d)
  (h2:∀x,cz p s (L.getD i aA) x false->bh (L.getD i aA) (aO p x) x/\d0 p ex (cp (L.getD i aA) (aO p x) x)∈cs.map (d0 p ex)):sb p q s ex (cG (d0 p ex) L cs) (i+1):=by
 obtain⟨m,e⟩:=jc (d0 p ex) cs L
 refine⟨fun c hc=>?_,jd _ _ h.dis,fun c hc=>ld _ (h.ini c hc),fun j hj x=>?_,by rw[e,List.length_append];omega⟩
 ·rcases kK _ cs hc with h|h
  ·exact sb.rep ‹_› c h
  ·exact h1 c h
 ·rw[e,CY (by omega),<-e]
  intro he
  by_cases hj2:j<i
  ·exact⟨(h.stp j hj2 x he).1,ld _ (h.stp j hj2 x he).2⟩
  ·have:j=i:=by omega
   subst this
   refine⟨(h2 x he).1,?_⟩
   obtain⟨d,hd,e2⟩:=List.mem_map.1 (h2 x he).2
   rw[<-e2]
   exact je _ cs L d hd
theorem sb.clo {L:List ap} {i:Nat} (h:sb p q s ex L i) (hi:L.length<=i):tp p q s ex L:=
 ⟨h.rep,h.dis,h.ini,fun c hc x he=>by
  obtain⟨j,hj,rfl⟩:=bL aA hc
  exact h.stp j (by omega) x he⟩
theorem sb.over (S:jI p q s) {L:List ap} {i:Nat} (h:sb p q s ex L i) {j:Nat} (hj:j<L.length) (ho:∃x,cz p s (L.getD j aA) x false/\¬bh (L.getD j aA) (aO p x) x):¬∃M,tp p q s ex M/\M.length<=4000:=by
 obtain⟨x,he,ha⟩:=ho
 exact fun⟨M,hM,_⟩=>Cx S (h.rep _ (bi aA hj)) he ha ⟨M,hM⟩
theorem sb.many (S:jI p q s) {L:List ap} {i:Nat} (h:sb p q s ex L i) (hn:4000<L.length):¬∃M,tp p q s ex M/\M.length<=4000:=Cy S h.rep h.dis hn
def ia (p:aq) (ex:Bool) (o:dy):ap:=d0 p ex o.c
structure vO (p:aq) (q:bO) (s:aB) (l:List dy) (lo n:Nat):Prop where
 le:lo<=l.length
 og:eJ p q s l
 dis:(l.map (ia p false)).Nodup
 kd:∀k,KD p q s n k↔k∈l.map (ia p false)
 kl:∀k,(∃m,m<n/\KD p q s m k)↔k∈(l.take lo).map (ia p false)
 len:∀i r xs,lo<=i->i<l.length->dj l i r xs->xs.length=n
 on:∀m,m<n->Gt p q s m
 few:lo<=4000
 num:n<=lo
theorem EQ {c:ap} (h:Wn p q s 0 c):lf p q s c:=by
 cases h with
 |ini h=>exact h
theorem vO.zero (cs:List ap) (h1:∀c,c∈cs↔lf p q s c):vO p q s (cG (ia p false) [] (cs.map fun c=>⟨c,-1,bm⟩)) 0 0:=by
 have hog:∀(os:List ap) (l:List dy),(∀c∈os,lf p q s c)->eJ p q s l->(∀i,i<l.length->(ce l i).src=-1)->eJ p q s (cG (ia p false) l (os.map fun c=>⟨c,-1,bm⟩))/\∀i,i<(cG (ia p false) l (os.map fun c=>⟨c,-1,bm⟩)).length->(ce (cG (ia p false) l (os.map fun c=>⟨c,-1,bm⟩)) i).src=-1:=by
  intro os
  induction os with
  |nil=>exact fun l _ h1 h2=>⟨h1,h2⟩
  |cons c os ih=>
   intro l h1 h2 h3
   rw[List.map_cons,cU]
   refine ih _ (fun d hd=>h1 d (List.mem_cons_of_mem _ hd)) ?_ ?_
   ·by_cases hm:ia p false ⟨c,-1,bm⟩∈l.map (ia p false)
    ·rw[df _ hm];exact h2
    ·rw[d8 _ hm];exact h2.ini (h1 c List.mem_cons_self) _
   ·by_cases hm:ia p false ⟨c,-1,bm⟩∈l.map (ia p false)
    ·rw[df _ hm];exact h3
    ·rw[d8 _ hm]
     intro i hi
     rw[List.length_append,List.length_singleton] at hi
     by_cases e:i<l.length
     ·rw[dJ e];exact h3 i e
     ·have:i=l.length:=by omega
      subst this
      rw[gY]
 obtain⟨g1,g2⟩:=hog cs [] (fun c hc=>(h1 c).1 hc) eJ.nil (fun i hi=>absurd hi (Nat.not_lt_zero _))
 refine⟨Nat.zero_le _,g1,jd _ _ (by simp),fun k=>⟨?_,?_⟩,fun k=>⟨?_,?_⟩,?_,fun m hm=>absurd hm (Nat.not_lt_zero _),by omega,Nat.le_refl _⟩
 ·rintro⟨m,c,hm,hw,rfl⟩
  obtain rfl:m=0:=by omega
  exact je (ia p false) _ [] ⟨c,-1,bm⟩ (List.mem_map.2 ⟨c,(h1 c).2 (EQ hw),rfl⟩)
 ·intro hk
  obtain⟨o,ho,rfl⟩:=List.mem_map.1 hk
  rcases kK _ _ ho with h|h
  ·exact absurd h List.not_mem_nil
  ·obtain⟨c,hc,rfl⟩:=List.mem_map.1 h
   exact⟨0,c,Nat.le_refl _, .ini ((h1 c).1 hc),rfl⟩
 ·rintro⟨m,hm,_⟩;omega
 ·intro hk;simp at hk
 ·intro i r xs _ hi hc
  cases hc with
  |root _=>rfl
  |step hj h _=>have:=g2 i hi;omega
theorem vO.wn {l:List dy} {lo n:Nat} (h:vO p q s l lo n) {i:Nat} (h1:lo<=i) (h2:i<l.length):Wn p q s n (ce l i).c:=by
 obtain⟨r,xs,hc⟩:=dj.ex h.og i h2
 have:=hc.wn h.og h2
 rw[h.len i r xs h1 h2 hc] at this
 exact this
theorem yg {l:List dy} {i:Nat} (h:i<l.length):ce l i∈l:=bi hZ h
theorem CZ {l:List dy} {lo:Nat} {k:ap} (h:k∈(l.take lo).map (ia p ex)):∃i,i<lo/\i<l.length/\ia p ex (ce l i)=k:=by
 obtain⟨o,ho,rfl⟩:=List.mem_map.1 h
 obtain⟨i,hi,rfl⟩:=bL hZ ho
 rw[List.length_take] at hi
 refine⟨i,by omega,by omega,?_⟩
 congr 1
 unfold ce
 rw[gD,gD,List.getElem?_take,if_pos (by omega)]
theorem C1 {l:List dy} {lo i:Nat} (h:i<lo) (hl:i<l.length):ia p ex (ce l i)∈(l.take lo).map (ia p ex):=by
 refine List.mem_map.2 ⟨ce l i,?_,rfl⟩
 have e:ce l i=(l.take lo).getD i hZ:=by
  unfold ce
  rw[gD,gD,List.getElem?_take,if_pos h]
 rw[e]
 exact bi hZ (by rw[List.length_take];omega)
theorem vO.near {l:List dy} {lo n:Nat} (h:vO p q s l lo n) {k:ap} (hk:KD p q s n k):(∃m,m<n/\KD p q s m k)\/∃i,lo<=i/\i<l.length/\ia p false (ce l i)=k:=by
 obtain⟨o,ho,e⟩:=List.mem_map.1 ((h.kd k).1 hk)
 obtain⟨i,hi,rfl⟩:=bL hZ ho
 by_cases hlo:lo<=i
 ·exact .inr ⟨i,hlo,hi,e⟩
 ·left
  rw[h.kl,<-e]
  exact C1 (by omega) hi
theorem vO.end_iff {l:List dy} {lo n:Nat} (h:vO p q s l lo n):qp p q s n↔lo=l.length:=by
 constructor
 ·intro he
  by_cases hlt:lo<l.length
  ·exfalso
   have h1:=(h.kl _).1 (he _ ((h.kd _).2 (List.mem_map.2 ⟨ce l lo,yg hlt,rfl⟩)))
   obtain⟨i,hi1,hi2,e⟩:=CZ h1
   have hd:=List.pairwise_iff_getElem.1 h.dis i lo (by rw[List.length_map];omega) (by rw[List.length_map];omega) hi1
   rw[List.getElem_map,List.getElem_map] at hd
   unfold ce at e
   rw[gD,gL hi2,gD,gL hlt] at e
   exact hd e
  ·have:=h.le
   omega
 ·intro e k hk
  rw[h.kl,e,List.take_length]
  exact(h.kd k).1 hk
theorem vO.few_iff {l:List dy} {lo n:Nat} (h:vO p q s l lo n):Cz p q s n↔l.length<=4000:=by
 constructor
 ·rintro⟨L,h1,h2⟩
  have:=vB h.dis (m:=L) fun k hk=>h2 k ((h.kd k).2 hk)
  rw[List.length_map] at this
  omega
 ·intro hl
  exact⟨l.map (ia p false),by rw[List.length_map];exact hl,fun k hk=>(h.kd k).1 hk⟩
theorem vO.bad_iff (S:jI p q s) {l:List dy} {lo n:Nat} (h:vO p q s l lo n):r6 p q s n↔∃i,lo<=i/\i<l.length/\qQ p q (ce l i).c:=by
 constructor
 ·rintro⟨c,hw,hb⟩
  rcases h.near ⟨n,c,Nat.le_refl _,hw,rfl⟩ with ⟨m,hm,j,d,hj,hwd,e⟩|⟨i,h1,h2,e⟩
  ·exact absurd ⟨d,hwd,(tq (hwd.rdy S) (hw.rdy S) e).2 hb⟩ (h.on j (by omega)).2.1
  ·exact⟨i,h1,h2,(tq ((h.wn h1 h2).rdy S) (hw.rdy S) e).2 hb⟩
 ·rintro⟨i,h1,h2,hb⟩
  exact⟨_,h.wn h1 h2,hb⟩
theorem vO.over_iff (S:jI p q s) {l:List dy} {lo n:Nat} (h:vO p q s l lo n):wZ p q s n↔∃i,lo<=i/\i<l.length/\∃x,cz p s (ce l i).c x false/\¬bh (ce l i).c (aO p x) x:=by
 constructor
 ·rintro⟨c,x,hw,he,ha⟩
  rcases h.near ⟨n,c,Nat.le_refl _,hw,rfl⟩ with ⟨m,hm,j,d,hj,hwd,e⟩|⟨i,h1,h2,e⟩
  ·obtain⟨y,k1,k2,k3,_⟩:=mO (hw.rdy S) (hwd.rdy S) e.symm he
   refine absurd ⟨d,y,hwd,k1,?_⟩ (h.on j (by omega)).2.2.2
   rw[k2];exact fun hh=>ha (k3.1 hh)
  ·obtain⟨y,k1,k2,k3,_⟩:=mO (hw.rdy S) ((h.wn h1 h2).rdy S) e.symm he
   refine⟨i,h1,h2,y,k1,?_⟩
   rw[k2];exact fun hh=>ha (k3.1 hh)
 ·rintro⟨i,h1,h2,x,he,ha⟩
  exact⟨_,x,h.wn h1 h2,he,ha⟩
structure tA (p:aq) (q:bO) (s:aB) (l0:List dy) (lo:Nat) (l:List dy) (i:Nat):Prop where
 pre:∃m,l=l0++m
 og:eJ p q s l
 dis:(l.map (ia p false)).Nodup
 src:∀j,l0.length<=j->j<l.length->∃k:Nat,lo<=k/\k<l0.length/\(ce l j).src=(k:Int)
 stp:∀j,lo<=j->j<i->∀x,cz p s (ce l0 j).c x false->bh (ce l0 j).c (aO p x) x/\d0 p false (cp (ce l0 j).c (aO p x) x)∈l.map (ia p false)
theorem tA.zero {l:List dy} {lo n:Nat} (h:vO p q s l lo n):tA p q s l lo l lo:=
 ⟨⟨[],by simp⟩,h.og,h.dis,fun j h1 h2=>by omega,fun j h1 h2=>by omega⟩
theorem tA.same {l0 l:List dy} {lo i j:Nat} (h:tA p q s l0 lo l i) (hj:j<l0.length):ce l j=ce l0 j:=by
 obtain⟨m,e⟩:=h.pre
 rw[e,dJ hj]
def ER (p:aq) (c:ap) (i:Nat) (x:be):dy:=⟨cp c (aO p x) x,(i:Int),x⟩
theorem eJ.exs {c:ap} {i:Nat}:∀(xs:List be) {l:List dy},eJ p q s l->i<l.length->(ce l i).c=c->(∀x∈xs,cz p s c x false/\bh c (aO p x) x)->eJ p q s (cG (ia p ex) l (xs.map (ER p c i)))
 |[],_,h,_,_,_=>h
 |x::xs,l,h,hi,hc,hx=>by
  rw[List.map_cons,cU]
  obtain⟨m,e⟩:=qv (ia p ex) l (ER p c i x)
  refine eJ.exs xs ?_ (by rw[e,List.length_append];omega) (by rw[e,dJ hi];exact hc) fun y hy=>hx y (List.mem_cons_of_mem _ hy)
  by_cases hm:ia p ex (ER p c i x)∈l.map (ia p ex)
  ·rw[df _ hm];exact h
  ·rw[d8 _ hm]
   have h1:=hx x List.mem_cons_self
   subst hc
   exact h.stp hi h1.1 h1.2
theorem C2 {os l:List dy} (P:Int->Prop) (h:∀o∈os,P o.src) {j:Nat} (h1:l.length<=j) (h2:j<(cG (ia p ex) l os).length):P (ce (cG (ia p ex) l os) j).src:=by
 induction os generalizing l with
 |nil=>rw[zR] at h2;omega
 |cons o os ih=>
  rw[cU] at h2⊢
  by_cases hj:(jb (ia p ex) l o).length<=j
  ·exact ih (fun k hk=>h k (List.mem_cons_of_mem _ hk)) hj h2
  ·obtain⟨m,e⟩:=jc (ia p ex) os (jb (ia p ex) l o)
   rw[e,dJ (by omega)]
   by_cases hm:ia p ex o∈l.map (ia p ex)
   ·rw[df _ hm] at hj;omega
   ·rw[d8 _ hm] at hj⊢
    rw[List.length_append,List.length_singleton] at hj
    have:j=l.length:=by omega
    subst this
    rw[gY]
    exact h o List.mem_cons_self
theorem tA.next {l0 l:List dy} {lo i:Nat} (h:tA p q s l0 lo l i) (h1:lo<=i) (h2:i<l0.length) (xs:List be) (hxs:∀x,x∈xs↔cz p s (ce l0 i).c x false) (ha:∀x∈xs,bh (ce l0 i).c (aO p x) x):
  tA p q s l0 lo (cG (ia p false) l (xs.map (ER p (ce l0 i).c i))) (i+1):=by
 obtain⟨m0,e0⟩:=h.pre
 obtain⟨m,e⟩:=jc (ia p false) (xs.map (ER p (ce l0 i).c i)) l
 have hl:l0.length<=l.length:=by rw[e0,List.length_append];omega
 refine⟨⟨m0++m,by rw[e,e0,List.append_assoc]⟩,eJ.exs xs h.og (by omega) (by rw[h.same h2]) fun x hx=>⟨(hxs x).1 hx,ha x hx⟩,jd _ _ h.dis,fun j g1 g2=>?_,fun j g1 g2 x he=>?_⟩
 ·by_cases hj:j<l.length
  ·rw[e,dJ hj];exact h.src j g1 hj
  ·exact C2 (p:=p) (ex:=false) (fun k=>∃k':Nat,lo<=k'/\k'<l0.length/\k=(k':Int)) (fun o ho=>by
    obtain⟨x,_,rfl⟩:=List.mem_map.1 ho
    exact⟨i,h1,h2,rfl⟩) (by omega) g2
 ·by_cases hj:j<i
  ·exact⟨(h.stp j g1 hj x he).1,ld _ (h.stp j g1 hj x he).2⟩
  ·have:j=i:=by omega
   subst this
   have hx:=(hxs x).2 he
   refine⟨ha x hx,?_⟩
   exact je (ia p false) _ l (ER p (ce l0 j).c j x) (List.mem_map.2 ⟨x,hx,rfl⟩)
theorem tA.done (S:jI p q s) {l0 l:List dy} {lo n:Nat} (h0:vO p q s l0 lo n) (h:tA p q s l0 lo l l0.length) (hlt:lo<l0.length) (hb:∀i,lo<=i->i<l0.length->¬qQ p q (ce l0 i).c) (hf:l0.length<=4000):vO p q s l l0.length (n+1):=by
 obtain⟨m0,e0⟩:=h.pre
 have hl:l0.length<=l.length:=by rw[e0,List.length_append];omega
 have hlen:∀i r xs,l0.length<=i->i<l.length->dj l i r xs->xs.length=n+1:=by
  intro i r xs g1 g2 hc
  obtain⟨k,k1,k2,k3⟩:=h.src i g1 g2
  cases hc with
  |root hs=>omega
  |@step _ j _ xs' hj hs hc'=>
   have:j=k:=by omega
   subst this
   obtain⟨r2,ys,hy⟩:=dj.ex h0.og j k2
   have hy':dj l j r2 ys:=by rw[e0];exact hy.app k2
   obtain⟨_,e⟩:=hc'.one hy'
   rw[List.length_append,List.length_singleton,e,h0.len j r2 ys k1 k2 hy]
 have hkd0:∀k,KD p q s n k->k∈l.map (ia p false):=fun k hk=>by
  rw[e0,List.map_append]
  exact List.mem_append_left _ ((h0.kd k).1 hk)
 refine⟨hl,h.og,h.dis,fun k=>⟨?_,?_⟩,fun k=>?_,hlen,fun m hm=>?_,hf,by have:=h0.num;omega⟩
 ·rintro⟨m,c,hm,hw,rfl⟩
  by_cases hmn:m<=n
  ·exact hkd0 _ ⟨m,c,hmn,hw,rfl⟩
  ·obtain rfl:m=n+1:=by omega
   cases hw with
   |@stp _ d x hw he ha=>
    rcases h0.near ⟨n,d,Nat.le_refl _,hw,rfl⟩ with ⟨m,hm,hk⟩|⟨i,g1,g2,e⟩
    ·exact hkd0 _ ((hk.step S (hw.rdy S) he ha).mono (by omega))
    ·obtain⟨y,k1,k2,k3,k4⟩:=mO (hw.rdy S) ((h0.wn g1 g2).rdy S) e.symm he
     have:=(h.stp i g1 g2 y k1).2
     rw[k2] at this
     rw[k4]
     exact this
 ·intro hk
  obtain⟨o,ho,rfl⟩:=List.mem_map.1 hk
  obtain⟨i,hi,rfl⟩:=bL hZ ho
  by_cases hil:i<l0.length
  ·have e:l.getD i hZ=ce l0 i:=h.same hil
   rw[e]
   exact((h0.kd _).2 (List.mem_map.2 ⟨_,yg hil,rfl⟩)).mono (by omega)
  ·obtain⟨r,xs,hc⟩:=dj.ex h.og i hi
   have hw:=hc.wn h.og hi
   rw[hlen i r xs (by omega) hi hc] at hw
   exact⟨n+1,_,Nat.le_refl _,hw,rfl⟩
 ·have et:l.take l0.length=l0:=by rw[e0];simp
  rw[et,<-h0.kd]
  constructor
  ·rintro⟨m,hm,hk⟩;exact hk.mono (by omega)
  ·intro hk;exact⟨n,by omega,hk⟩
 ·by_cases hmn:m<n
  ·exact h0.on m hmn
  ·obtain rfl:m=n:=by omega
   refine⟨fun he=>by have:=h0.end_iff.1 he;omega,fun hh=>?_,h0.few_iff.2 hf,fun hh=>?_⟩
   ·obtain⟨i,g1,g2,g3⟩:=(h0.bad_iff S).1 hh
    exact hb i g1 g2 g3
   ·obtain⟨i,g1,g2,x,g3,g4⟩:=(h0.over_iff S).1 hh
    exact g4 (h.stp i g1 g2 x g3).1
end
end
end Go.Proofs.YtblcpnmnibcbbaaGreatDoor
