import Derived.Test.YtekmminpfhacpaaGreatDoorM6
set_option linter.unusedVariables false
set_option linter.unusedSimpArgs false
namespace Go.Proofs.YtekmminpfhacpaaGreatDoor
set_option maxRecDepth 100000
set_option maxHeartbeats 16000000
def Qb (p:av) (s:dV) (c:ct) (r i:Int):Prop:=i<c.correct/\∃k:Nat,k<=c.states.length/\Oo p s c ⟨r,i,(k:Int)-1⟩ true
noncomputable instance decFc (p:av) (s:dV) (c:ct) (r i:Int):Decidable (Qb p s c r i):=Classical.propDecidable _
def OK (c:ct) (r:cf) (x:jk) (j:Nat):Int:=if(j:Int)=x.process then r.dst else if(r.kind=2\/r.kind=5)/\(j:Int)=x.partner then r.pto else if r.kind=3 then r.response.getD (c.states.getD j 0).toNat 0 else c.states.getD j 0
def NF (c:ct) (r:cf) (x:jk):List Int:=(List.range c.states.length).map (OK c r x)
def eh (l:List Int):List Int->List Int
 |[]=>l
 |m::ms=>eh (l.set m.toNat (l.getD m.toNat 0+1)) ms
theorem ua:∀(ms:List Int) (l:List Int) (m:Int),eh l (ms++[m])=(eh l ms).set m.toNat ((eh l ms).getD m.toNat 0+1)
 |[],_,_=>rfl
 |a::ms,l,m=>ua ms _ m
theorem Hn {l ms:List Int} {k:Nat} (h:k<ms.length):eh l (ms.take (k+1))=(eh l (ms.take k)).set (ms.getD k 0).toNat ((eh l (ms.take k)).getD (ms.getD k 0).toNat 0+1):=by
 have e:ms.getD k 0=ms[k]:=by rw[gD,gL h];rfl
 rw[List.take_succ_eq_append_getElem h,<-e,ua]
theorem kE:∀(ms l:List Int),(eh l ms).length=l.length
 |[],_=>rfl
 |a::ms,l=>by rw[eh,kE ms];simp
theorem Kc {l:List Int} (h:rE l 1048577):∀j,0<=l.getD j 0/\l.getD j 0<=1048576:=fun j=>by
 by_cases hj:j<l.length
 ·have:=h j hj;omega
 ·rw[gD,List.getElem?_eq_none (by omega)]
  exact⟨by decide,by decide⟩
def MG (l ms:List Int):Prop:=∀k,k<ms.length->(eh l (ms.take (k+1))).getD (ms.getD k 0).toNat 0<=1048576
def ub (c:ct) (r:cf) (x:jk):ct:=⟨c.shape,NF c r x,c.correct,if x.process<c.correct then eh c.sent r.send else c.sent,if x.process<c.correct then c.faulty else eh c.faulty r.send,if r.write=-1 then c.value else r.write⟩
def OL (c:ct) (r:cf) (x:jk):Prop:=if x.process<c.correct then MG c.sent r.send else MG c.faulty r.send
noncomputable instance decAp (c:ct) (r:cf) (x:jk):Decidable (OL c r x):=Classical.propDecidable _
theorem C5 (c:ct) (r:cf) (x:jk):(NF c r x).length=c.states.length:=by simp[NF]
theorem OM {c:ct} {r:cf} {x:jk} {l:List Int} (hl:l.length=c.states.length) (h:∀j,j<c.states.length->l.getD j 0=OK c r x j):l=NF c r x:=Jl hl h
theorem kz.send {p:av} {r:cf} (h:kz p r):rE r.send p.messages.length:=by
 by_cases k1:r.kind=1
 ·have:=h.kin
  unfold dN at this
  rw[if_pos k1] at this
  exact(JD (dQ this (ca r.send p.messages.length) (by simp))).1
 ·have hs:=h.sur
  unfold jI at hs
  intro j hj
  omega
theorem kz.resp {p:av} {r:cf} (h:kz p r) (hk:r.kind=3):r.response.length=p.states.length/\rE r.response p.states.length:=by
 have:=h.kin
 unfold dN at this
 rw[if_neg (by omega),if_neg (by omega),if_pos hk] at this
 have:=dQ this (jX r.response p.states.length) (by simp)
 unfold jX at this
 by_cases h1:(r.response.length:Int)≠p.states.length
 ·rw[if_pos h1] at this;omega
 ·rw[if_neg h1] at this
  by_cases h2:rE r.response p.states.length
  ·exact⟨by omega,h2⟩
  ·rw[if_neg h2] at this;omega
theorem xz {p:av} (h:aX p=0):0<=p.fault/\p.fault<=3:=by
 unfold aX at h
 by_cases h1:¬c9 p.name
 ·rw[if_pos h1] at h;omega
 rw[if_neg h1] at h
 by_cases h2:p.topology<1\/4<p.topology\/p.fault<0\/3<p.fault
 ·rw[if_pos h2] at h;omega
 ·omega
end Go.Proofs.YtekmminpfhacpaaGreatDoor
