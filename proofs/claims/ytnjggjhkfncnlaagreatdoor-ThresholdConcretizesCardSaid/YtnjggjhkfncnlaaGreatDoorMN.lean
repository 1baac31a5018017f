import Derived.Test.YtnjggjhkfncnlaaGreatDoorM6
set_option linter.unusedVariables false
set_option linter.unusedSimpArgs false
namespace Go.Proofs.YtnjggjhkfncnlaaGreatDoor
set_option maxRecDepth 100000
set_option maxHeartbeats 16000000
def z9 (a b d e:Nat) (c:aR):AV:=.agg [.row a c.shape.length 1, .row b c.states.length 1, .int .i64 c.correct, .row d c.sent.length 1, .row e c.faulty.length 1, .int .i64 c.value]
def qY (c:aR):AV:=z9 1001 1002 1003 1004 c
def tB (c:aR):List (Nat×cn):=[(1001,bv c.shape),(1002,bv c.states),(1003,bv c.sent),(1004,bv c.faulty)]
def Aa (a b d e:Nat):cT:=[(1001, .old a),(1002, .old b),(1003, .old d),(1004, .old e)]
def HS (a b d e:Nat) (c:aR) (M:aj):Prop:=M a=some (bv c.shape)/\M b=some (bv c.states)/\M d=some (bv c.sent)/\M e=some (bv c.faulty)
def Kz (a b d e:Nat) (c:aR):AV->aj->Prop:=fun u M=>u=z9 a b d e c/\HS a b d e c M
def KP (a b d e:Nat) (c:aR) (n:Int):AV->aj->Prop:=fun u M=>u= .tup [z9 a b d e c, .int .i64 n]/\HS a b d e c M
theorem JJ {a b d e:Nat} {c:aR} {M:aj} (h:HS a b d e c M):cU (Aa a b d e) 400 M (tB c):=by
 obtain⟨h1,h2,h3,h4⟩:=h
 refine⟨?_,?_,?_,?_,trivial⟩
 ·show md _ 400 (M a) _;rw[h1];rfl
 ·show md _ 400 (M b) _;rw[h2];rfl
 ·show md _ 400 (M d) _;rw[h3];rfl
 ·show md _ 400 (M e) _;rw[h4];rfl
theorem FB {a b d e:Nat} {c:aR}:∀u M',Kz a b d e c u M'->cU (Aa a b d e) 400 M' (tB c)/\jr (Aa a b d e) 400 u (qY c):=by
 rintro _ M' ⟨rfl,h⟩
 exact⟨JJ h,by simp[jr,ij,Aa,aU,z9,qY]⟩
theorem JK {a b d e:Nat} {c:aR} {m:Int}:∀u M',KP a b d e c m u M'->cU (Aa a b d e) 400 M' (tB c)/\jr (Aa a b d e) 400 u (.tup [qY c, .int .i64 m]):=by
 rintro _ M' ⟨rfl,h⟩
 exact⟨JJ h,by simp[jr,ij,Aa,aU,z9,qY]⟩
theorem FC {ℓ a:Nat} {l:List Int}:∀u M',(u= .row a l.length 1/\M' a=some (bv l))->cU [(ℓ, .old a)] 400 M' [(ℓ,bv l)]/\jr [(ℓ, .old a)] 400 u (.row ℓ l.length 1):=by
 rintro _ M' ⟨rfl,h⟩
 constructor
 ·simp[cU,aU,md,h,bv]
 ·simp[jr,aU]
theorem Ds (c:aR) (hw:ct c=false):ak Tryz.prog 121 [.agg (aW c)] (aj.ofL []) (Kz 5 9 13 17 c):=by
 have hc:=b8 hw
 refine ak.intro ac ag [] Tryz.func121 rfl (by decide) ?_
 conv=>whnf
 refine wi ?_
 conv=>whnf
 refine nI ?_
 conv=>whnf
 refine nI ?_
 conv=>whnf
 refine nI ?_
 conv=>whnf
 refine nI ?_
 conv=>whnf
 exact⟨rfl,rfl,rfl,rfl,rfl⟩
theorem la (l:List Int) (hl:l.length<=1000000):ak Tryz.prog 210 [.sl 0 an l] (aj.ofL []) (fun u M=>u= .row 5 l.length 1/\M 5=some (bv l)):=by
 refine ak.intro ac ag [] Tryz.func210 rfl (by decide) ?_
 conv=>whnf
 refine bw 0 an [] rfl ?_
 conv=>whnf
 refine bD _ rfl (by simp only[List.length_nil];omega) ?_
 conv=>whnf
 exact⟨by show AV.row 5 (0+l.length) 1=_;rw[Nat.zero_add],rfl⟩
theorem Gk (c:aR) (hw:ct c=false):ak Tryz.prog 155 [.agg (aW c)] (aj.ofL []) (Kz 1001 1002 1003 1004 c):=by
 have hc:=b8 hw
 refine ak.intro ac ag [] Tryz.func155 rfl (by decide) ?_
 conv=>whnf
 refine al rfl ?_
 conv=>whnf
 refine Bf (by decide+kernel) ?_
 conv=>whnf
 refine nm 400 [(1001, .old 5)] [(1001,bv c.shape)] (.row 1001 c.shape.length 1) (la c.shape (by omega)) (aa) rfl rfl FC ?_
 conv=>whnf
 refine nm 400 [(1002, .old 5)] [(1002,bv c.states)] (.row 1002 c.states.length 1) (la c.states (by omega)) (aa) rfl rfl FC ?_
 conv=>whnf
 refine nm 400 [(1003, .old 5)] [(1003,bv c.sent)] (.row 1003 c.sent.length 1) (la c.sent (by omega)) (aa) rfl rfl FC ?_
 conv=>whnf
 refine nm 400 [(1004, .old 5)] [(1004,bv c.faulty)] (.row 1004 c.faulty.length 1) (la c.faulty (by omega)) (aa) rfl rfl FC ?_
 conv=>whnf
 exact⟨rfl,rfl,rfl,rfl,rfl⟩
def Gm (c:aR) (r:bp) (x:dH) (j:Nat):Int:=if(j:Int)=x.process then r.dst else if(r.kind=2\/r.kind=5)/\(j:Int)=x.partner then r.pto else if r.kind=3 then r.response.getD (c.states.getD j 0).toNat 0 else c.states.getD j 0
def yF (c:aR) (r:bp) (x:dH):List Int:=(List.range c.states.length).map (Gm c r x)
def cu (l:List Int):List Int->List Int
 |[]=>l
 |m::ms=>cu (l.set m.toNat (l.getD m.toNat 0+1)) ms
theorem qq:∀(ms:List Int) (l:List Int) (m:Int),cu l (ms++[m])=(cu l ms).set m.toNat ((cu l ms).getD m.toNat 0+1)
 |[],_,_=>rfl
 |a::ms,l,m=>qq ms _ m
theorem ie {l ms:List Int} {k:Nat} (h:k<ms.length):cu l (ms.take (k+1))=(cu l (ms.take k)).set (ms.getD k 0).toNat ((cu l (ms.take k)).getD (ms.getD k 0).toNat 0+1):=by
 have e:ms.getD k 0=ms[k]:=by rw[gD,gL h];rfl
 rw[List.take_succ_eq_append_getElem h,<-e,qq]
theorem ee:∀(ms l:List Int),(cu l ms).length=l.length
 |[],_=>rfl
 |a::ms,l=>by rw[cu,ee ms];simp
theorem jN:∀(ms l:List Int) (b:Int),(∀j,0<=l.getD j 0/\l.getD j 0<=b)->∀j,0<=(cu l ms).getD j 0/\(cu l ms).getD j 0<=b+ms.length
 |[],l,b,h,j=>by have:=h j;simp only[cu,List.length_nil];omega
 |a::ms,l,b,h,j=>by
  have:=jN ms (l.set a.toNat (l.getD a.toNat 0+1)) (b+1) (fun i=>by
   have h1:=h i
   have h2:=h a.toNat
   rw[c5]
   split<;>omega) j
  rw[cu,List.length_cons]
  omega
theorem jO {l:List Int} (h:jC l 1048577):∀j,0<=l.getD j 0/\l.getD j 0<=1048576:=fun j=>by
 by_cases hj:j<l.length
 ·have:=h j hj;omega
 ·rw[gD,List.getElem?_eq_none (by omega)]
  exact⟨by decide,by decide⟩
def HT (l ms:List Int):Prop:=∀k,k<ms.length->(cu l (ms.take (k+1))).getD (ms.getD k 0).toNat 0<=1048576
def iZ (c:aR) (r:bp) (x:dH):aR:=⟨c.shape,yF c r x,c.correct,if x.process<c.correct then cu c.sent r.send else c.sent,if x.process<c.correct then c.faulty else cu c.faulty r.send,if r.write=-1 then c.value else r.write⟩
def ld (c:aR) (r:bp) (x:dH):Prop:=if x.process<c.correct then HT c.sent r.send else HT c.faulty r.send
noncomputable instance decAp (c:aR) (r:bp) (x:dH):Decidable (ld c r x):=Classical.propDecidable _
theorem gN (c:aR) (r:bp) (x:dH):(yF c r x).length=c.states.length:=by simp[yF]
theorem yG {c:aR} {r:bp} {x:dH} {l:List Int} (hl:l.length=c.states.length) (h:∀j,j<c.states.length->l.getD j 0=Gm c r x j):l=yF c r x:=mv hl h
theorem gI.send {p:au} {r:bp} (h:gI p r):jC r.send p.messages.length:=by
 by_cases k1:r.kind=1
 ·have:=h.kin
  unfold c7 at this
  rw[if_pos k1] at this
  exact(EQ (cF this (bQ r.send p.messages.length) (by simp))).1
 ·have hs:=h.sur
  unfold il at hs
  intro j hj
  omega
theorem gI.resp {p:au} {r:bp} (h:gI p r) (hk:r.kind=3):r.response.length=p.states.length/\jC r.response p.states.length:=by
 have:=h.kin
 unfold c7 at this
 rw[if_neg (by omega),if_neg (by omega),if_pos hk] at this
 have:=cF this (iJ r.response p.states.length) (by simp)
 unfold iJ at this
 by_cases h1:(r.response.length:Int)≠p.states.length
 ·rw[if_pos h1] at this;omega
 ·rw[if_neg h1] at this
  by_cases h2:jC r.response p.states.length
  ·exact⟨by omega,h2⟩
  ·rw[if_neg h2] at this;omega
theorem tC {p:au} (h:aB p=0):0<=p.fault/\p.fault<=3:=by
 unfold aB at h
 by_cases h1:¬cx p.name
 ·rw[if_pos h1] at h;omega
 rw[if_neg h1] at h
 by_cases h2:p.topology<1\/4<p.topology\/p.fault<0\/3<p.fault
 ·rw[if_pos h2] at h;omega
 ·omega
end Go.Proofs.YtnjggjhkfncnlaaGreatDoor
