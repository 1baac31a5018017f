import Derived.Test.YtokjgegkhlkopaaGreatDoorM6
set_option linter.unusedVariables false
set_option linter.unusedSimpArgs false
namespace Go.Proofs.YtokjgegkhlkopaaGreatDoor
set_option maxRecDepth 100000
set_option maxHeartbeats 16000000
def Cn (a b d e:Nat) (c:ap):AV:=.agg [.row a c.shape.length 1, .row b c.states.length 1, .int .i64 c.correct, .row d c.sent.length 1, .row e c.faulty.length 1, .int .i64 c.value]
def fS (c:ap):AV:=Cn 1001 1002 1003 1004 c
def fT (c:ap):List (Nat×aX):=[(1001,bG c.shape),(1002,bG c.states),(1003,bG c.sent),(1004,bG c.faulty)]
def mU (a b d e:Nat):b8:=[(1001, .old a),(1002, .old b),(1003, .old d),(1004, .old e)]
def Kt (a b d e:Nat) (c:ap) (M:ai):Prop:=M a=some (bG c.shape)/\M b=some (bG c.states)/\M d=some (bG c.sent)/\M e=some (bG c.faulty)
def NH (a b d e:Nat) (c:ap):AV->ai->Prop:=fun u M=>u=Cn a b d e c/\Kt a b d e c M
def OI (a b d e:Nat) (c:ap) (n:Int):AV->ai->Prop:=fun u M=>u= .tup [Cn a b d e c, .int .i64 n]/\Kt a b d e c M
theorem NI {a b d e:Nat} {c:ap} {M:ai} (h:Kt a b d e c M):dK (mU a b d e) 400 M (fT c):=by
 obtain⟨h1,h2,h3,h4⟩:=h
 refine⟨?_,?_,?_,?_,trivial⟩
 ·show ie _ 400 (M a) _;rw[h1];rfl
 ·show ie _ 400 (M b) _;rw[h2];rfl
 ·show ie _ 400 (M d) _;rw[h3];rfl
 ·show ie _ 400 (M e) _;rw[h4];rfl
theorem gn {a b d e:Nat} {c:ap}:∀u M',NH a b d e c u M'->dK (mU a b d e) 400 M' (fT c)/\mC (mU a b d e) 400 u (fS c):=by
 rintro _ M' ⟨rfl,h⟩
 exact⟨NI h,by simp[mC,ge,mU,aA,Cn,fS]⟩
theorem vD {ℓ a:Nat} {l:List Int}:∀u M',(u= .row a l.length 1/\M' a=some (bG l))->dK [(ℓ, .old a)] 400 M' [(ℓ,bG l)]/\mC [(ℓ, .old a)] 400 u (.row ℓ l.length 1):=by
 rintro _ M' ⟨rfl,h⟩
 constructor
 ·simp[dK,aA,ie,h,bG]
 ·simp[mC,aA]
theorem iQ (c:ap) (hw:bc c=false):an Tryz.prog 91 [.agg (bg c)] (ai.ofL []) (NH 5 9 13 17 c):=by
 have hc:=aL hw
 refine an.intro ab ac [] Tryz.func91 rfl (by decide) ?_
 conv=>whnf
 refine yU ?_
 conv=>whnf
 refine nI ?_
 conv=>whnf
 refine nI ?_
 conv=>whnf
 refine nI ?_
 conv=>whnf
 refine nI ?_
 conv=>whnf
 exact⟨rfl,rfl,rfl,rfl,rfl⟩
theorem fA (l:List Int) (hl:l.length<=1000000):an Tryz.prog 51 [.sl 0 aD l] (ai.ofL []) (fun u M=>u= .row 5 l.length 1/\M 5=some (bG l)):=by
 refine an.intro ab ac [] Tryz.func51 rfl (by decide) ?_
 conv=>whnf
 refine cA 0 aD [] rfl ?_
 conv=>whnf
 refine cB _ rfl (by simp only[List.length_nil];omega) ?_
 conv=>whnf
 exact⟨by show AV.row 5 (0+l.length) 1=_;rw[Nat.zero_add],rfl⟩
theorem hZ (c:ap) (hw:bc c=false):an Tryz.prog 59 [.agg (bg c)] (ai.ofL []) (NH 1001 1002 1003 1004 c):=by
 have hc:=aL hw
 refine an.intro ab ac [] Tryz.func59 rfl (by decide) ?_
 conv=>whnf
 refine am rfl ?_
 conv=>whnf
 refine eC (by decide+kernel) ?_
 conv=>whnf
 refine cD 400 [(1001, .old 5)] [(1001,bG c.shape)] (.row 1001 c.shape.length 1) (fA c.shape (by omega)) (aa) rfl rfl vD ?_
 conv=>whnf
 refine cD 400 [(1002, .old 5)] [(1002,bG c.states)] (.row 1002 c.states.length 1) (fA c.states (by omega)) (aa) rfl rfl vD ?_
 conv=>whnf
 refine cD 400 [(1003, .old 5)] [(1003,bG c.sent)] (.row 1003 c.sent.length 1) (fA c.sent (by omega)) (aa) rfl rfl vD ?_
 conv=>whnf
 refine cD 400 [(1004, .old 5)] [(1004,bG c.faulty)] (.row 1004 c.faulty.length 1) (fA c.faulty (by omega)) (aa) rfl rfl vD ?_
 conv=>whnf
 exact⟨rfl,rfl,rfl,rfl,rfl⟩
def mV (c:ap) (r:dh) (x:aQ) (j:Nat):Int:=if(j:Int)=x.process then r.dst else if(r.kind=2\/r.kind=5)/\(j:Int)=x.partner then r.pto else if r.kind=3 then r.response.getD (c.states.getD j 0).toNat 0 else c.states.getD j 0
def f8 (c:ap) (r:dh) (x:aQ):List Int:=(List.range c.states.length).map (mV c r x)
def aO (l:List Int):List Int->List Int
 |[]=>l
 |m::ms=>aO (l.set m.toNat (l.getD m.toNat 0+1)) ms
theorem rP:∀(ms:List Int) (l:List Int) (m:Int),aO l (ms++[m])=(aO l ms).set m.toNat ((aO l ms).getD m.toNat 0+1)
 |[],_,_=>rfl
 |a::ms,l,m=>rP ms _ m
theorem aJ {l ms:List Int} {k:Nat} (h:k<ms.length):aO l (ms.take (k+1))=(aO l (ms.take k)).set (ms.getD k 0).toNat ((aO l (ms.take k)).getD (ms.getD k 0).toNat 0+1):=by
 have e:ms.getD k 0=ms[k]:=by rw[gD,gL h];rfl
 rw[List.take_succ_eq_append_getElem h,<-e,rP]
theorem bA:∀(ms l:List Int),(aO l ms).length=l.length
 |[],_=>rfl
 |a::ms,l=>by rw[aO,bA ms];simp
theorem aU:∀(ms l:List Int) (b:Int),(∀j,0<=l.getD j 0/\l.getD j 0<=b)->∀j,0<=(aO l ms).getD j 0/\(aO l ms).getD j 0<=b+ms.length
 |[],l,b,h,j=>by have:=h j;simp only[aO,List.length_nil];omega
 |a::ms,l,b,h,j=>by
  have:=aU ms (l.set a.toNat (l.getD a.toNat 0+1)) (b+1) (fun i=>by
   have h1:=h i
   have h2:=h a.toNat
   rw[aB]
   split<;>omega) j
  rw[aO,List.length_cons]
  omega
theorem aV {l:List Int} (h:kX l 1048577):∀j,0<=l.getD j 0/\l.getD j 0<=1048576:=fun j=>by
 by_cases hj:j<l.length
 ·have:=h j hj;omega
 ·rw[gD,List.getElem?_eq_none (by omega)]
  exact⟨by decide,by decide⟩
def Ku (l ms:List Int):Prop:=∀k,k<ms.length->(aO l (ms.take (k+1))).getD (ms.getD k 0).toNat 0<=1048576
def cb (c:ap) (r:dh) (x:aQ):ap:=⟨c.shape,f8 c r x,c.correct,if x.process<c.correct then aO c.sent r.send else c.sent,if x.process<c.correct then c.faulty else aO c.faulty r.send,if r.write=-1 then c.value else r.write⟩
def bo (c:ap) (r:dh) (x:aQ):Prop:=if x.process<c.correct then Ku c.sent r.send else Ku c.faulty r.send
noncomputable instance decAp (c:ap) (r:dh) (x:aQ):Decidable (bo c r x):=Classical.propDecidable _
theorem cd (c:ap) (r:dh) (x:aQ):(f8 c r x).length=c.states.length:=by simp[f8]
theorem dN {c:ap} {r:dh} {x:aQ} {l:List Int} (hl:l.length=c.states.length) (h:∀j,j<c.states.length->l.getD j 0=mV c r x j):l=f8 c r x:=nM hl h
theorem g9.send {p:ao} {r:dh} (h:g9 p r):kX r.send p.messages.length:=by
 by_cases k1:r.kind=1
 ·have:=h.kin
  unfold d8 at this
  rw[if_pos k1] at this
  exact(qb (cm this (c7 r.send p.messages.length) (by simp))).1
 ·have hs:=h.sur
  unfold kz at hs
  intro j hj
  omega
theorem g9.resp {p:ao} {r:dh} (h:g9 p r) (hk:r.kind=3):r.response.length=p.states.length/\kX r.response p.states.length:=by
 have:=h.kin
 unfold d8 at this
 rw[if_neg (by omega),if_neg (by omega),if_pos hk] at this
 have:=cm this (lC r.response p.states.length) (by simp)
 unfold lC at this
 by_cases h1:(r.response.length:Int)≠p.states.length
 ·rw[if_pos h1] at this;omega
 ·rw[if_neg h1] at this
  by_cases h2:kX r.response p.states.length
  ·exact⟨by omega,h2⟩
  ·rw[if_neg h2] at this;omega
theorem vE {p:ao} (h:bD p=0):0<=p.fault/\p.fault<=3:=by
 unfold bD at h
 by_cases h1:¬de p.name
 ·rw[if_pos h1] at h;omega
 rw[if_neg h1] at h
 by_cases h2:p.topology<1\/4<p.topology\/p.fault<0\/3<p.fault
 ·rw[if_pos h2] at h;omega
 ·omega
def pA (l:List ap) (e:Int):AV:=.tup [.sl aC bg l, .int .i64 e]
def kS (l:List ap):aX:=.row 38 aC bg l
def Og (v:AV):AV->Prop:=fun u=>u=v\/∃e,u= .tup [.nilsl, .int .i64 e]/\v=pA [] e
theorem ae.rp {f:FuncId} {args:List AV} {v:AV} (hf:∃l e,v=pA l e) (h:ae Tryz.prog f args (Og v)):ae Tryz.prog f args (fun u=>u=v):=by
 obtain⟨l,e,rfl⟩:=hf
 refine ae.sub h ?_
 rintro u (rfl|⟨e',rfl,h2⟩)
 ·exact⟨_,rfl,aa,rfl⟩
 ·rw[h2];exact⟨_,rfl,aa,rfl⟩
end Go.Proofs.YtokjgegkhlkopaaGreatDoor
