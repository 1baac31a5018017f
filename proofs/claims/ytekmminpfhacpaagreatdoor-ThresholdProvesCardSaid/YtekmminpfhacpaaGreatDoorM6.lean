import Derived.Test.YtekmminpfhacpaaGreatDoorM5
set_option linter.unusedVariables false
set_option linter.unusedSimpArgs false
namespace Go.Proofs.YtekmminpfhacpaaGreatDoor
section
set_option maxRecDepth 100000
set_option maxHeartbeats 8000000
def PI (q:aP) (c:ct):Prop:=∀j,j<q.bad.length->(q.bad.getD j b9).least<=PH (q.bad.getD j b9).states (c.states.take c.correct.toNat)
def Oi (p:av) (q:aP) (c:ct):Prop:=PI q c/\(q.adjacent.length=0\/Oh p c q.adjacent)
noncomputable instance decBad (p:av) (q:aP) (c:ct):Decidable (Oi p q c):=Classical.propDecidable _
def cntS:Sh:=jY (.int .nil)
def cntOf:iX cntS->KS
 |(a,b,_)=>⟨nE a,b⟩
section
variable {S:ai}
theorem cv_cnt (y:iX cntS):A' S (cQ cntS y) (iQ (cntOf y)):=by
 obtain⟨a,b,⟨⟩⟩:=y
 exact⟨Cv.ints a,Cv.refl _ _,trivial⟩
theorem cv_cnts (l:List (iX cntS)):Cv S (.sl (jH cntS) (cQ cntS) l) (.sl b9 iQ (l.map cntOf)):=
 Cv.sl (d:=jH cntS) (enc:=cQ cntS) b9 iQ cntOf fun y _=>⟨cv_cnt y,rfl⟩
end
end
section
set_option maxRecDepth 100000
set_option maxHeartbeats 8000000
def PJ (p:av) (s:dV) (c:ct) (m:Int):Bool->Int
 |false=>c.sent.getD m.toNat 0+(if p.fault=1\/p.fault=2 then c.faulty.getD m.toNat 0 else if p.fault=3 then s.f else 0)
 |true=>c.sent.getD m.toNat 0+(if p.fault=1 then c.faulty.getD m.toNat 0 else 0)
theorem rU {i n:Int} (h:dA i n=0):0<=i/\i<n:=by
 unfold dA at h;split at h<;>omega
theorem nh {m v:Int} (h:iO m v=0):-1<=v/\v<m:=by
 unfold iO at h;split at h<;>omega
structure kz (p:av) (r:cf):Prop where
 fit:i7 r.kind p.topology
 sur:¬jI r p.topology
 src:0<=r.src/\r.src<p.states.length
 dst:0<=r.dst/\r.dst<p.states.length
 kin:dN p r=0
theorem Gq {p:av} {i:Nat} {r:cf} (h:da p i r=0):kz p r:=by
 unfold da at h
 by_cases h1:¬c9 r.name\/iP p.rules i r
 ·rw[if_pos h1] at h;omega
 rw[if_neg h1] at h
 by_cases h2:¬i7 r.kind p.topology\/jI r p.topology
 ·rw[if_pos h2] at h;omega
 rw[if_neg h2] at h
 have hz:=dQ h
 refine⟨?_,fun hs=>h2 (.inr hs),rU (hz _ (by simp)),rU (hz _ (by simp)),hz _ (by simp)⟩
 by_cases hf:i7 r.kind p.topology
 ·exact hf
 ·exact absurd (.inl hf) h2
theorem tG {p:av} (h:aX p=0) {i:Nat} (hi:i<p.rules.length):kz p (p.rules.getD i ax):=by
 unfold aX at h
 have ht:CE p=0:=by
  (repeat' split at h)<;>first|exact h|omega
 have hz:=dQ ht (jy p) (by simp)
 refine Gq (i:=i) (dQ hz _ (List.mem_map.2 ⟨i,List.mem_range.2 hi,rfl⟩))
structure w8 (p:av) (s:dV) (c:ct):Prop where
 big:¬tw p
 wide:vB c=false
 val:aX p=0
 siz:QR s
 sz:(1<=s.n/\s.n<=8)/\(0<=s.f/\s.f<=s.n)
 adm:LR p s
 vc:VC p s c
theorem w8.sent {p:av} {s:dV} {c:ct} (h:w8 p s c):rE c.sent 1048577/\rE c.faulty 1048577:=by
 refine⟨h.vc.sen,fun j hj=>?_⟩
 have:=h.vc.fau j hj
 have e:Od p<=1048576:=by unfold Od;split<;>omega
 omega
def PK (p:av) (s:dV) (c:ct) (f:Bool) (g:fH):Prop:=Gj g.bound s<=g.coef*PJ p s c g.message f
def Oj (p:av) (s:dV) (c:ct) (r:cf) (f:Bool):Prop:=∀j,j<r.guards.length->PK p s c f (r.guards.getD j aM)
noncomputable instance decGrd (p:av) (s:dV) (c:ct) (r:cf) (f:Bool):Decidable (Oj p s c r f):=Classical.propDecidable _
def QU (c:ct) (l:List Int) (i:Int) (k:Nat):Prop:=l.length=0\/∃j,j<k/\(j:Int)≠i/\c.states.getD j 0∈l
def QV (c:ct) (l:List Int) (i:Int) (k:Nat):Prop:=l.length=0\/∀j,j<k->(j:Int)≠i->c.states.getD j 0∈l
def Ok (c:ct) (r:cf) (i:Int):Prop:=QU c r.some_ i c.states.length/\QV c r.forall_ i c.states.length
noncomputable instance decOth (c:ct) (r:cf) (i:Int):Decidable (Ok c r i):=Classical.propDecidable _
section
variable {c:ct} {l:List Int} {i:Int} {k:Nat}
end
def JE (c:ct) (l:List Int) (x:Int):Prop:=l.length=0\/(0<=x/\c.states.getD x.toNat 0∈l)
noncomputable instance decDem (c:ct) (l:List Int) (x:Int):Decidable (JE c l x):=Classical.propDecidable _
end
section
theorem shp.leaf {l:List Int} (h:shp l) {i:Nat} (hi:i<l.length) (h0:l.getD i 0=0):lN l i=i+1:=by
 obtain⟨e,h3,h4⟩:=h.at hi
 rw[vz hi,jw 0,if_pos h0,lj,Option.some.injEq] at e
 have:=congrArg List.length e
 simp only[List.length_drop] at this
 omega
set_option maxRecDepth 100000
set_option maxHeartbeats 8000000
structure jk where
 rule:Int
 process:Int
 partner:Int
def dX:jk:=⟨0,0,0⟩
def nF (p:av) (c:ct) (i:Nat):Int:=QA p.topology c.shape c.states.length i
def nS (p:av) (c:ct) (i:Nat):Int:=QB p.topology c.shape c.states.length i
def nP (p:av) (c:ct) (i:Nat):Int:=QQ p.topology c.shape c.states.length i
def Ol (p:av) (c:ct) (r:cf) (i:Nat):Prop:=(r.at_=1->i=0)/\(r.at_=2->(p.topology=2->nS p c i=-1)/\(p.topology=4->nF p c i=-1))
noncomputable instance decPos (p:av) (c:ct) (r:cf) (i:Nat):Decidable (Ol p c r i):=Classical.propDecidable _
def Om (p:av) (c:ct) (r:cf) (i:Nat) (j:Int):Prop:=if r.direction=1 then nS p c i=j else if r.direction=2 then nF p c i=j else if r.direction=3 then(nF p c i=j\/nS p c i=j) else nP p c i=j
noncomputable instance decPas (p:av) (c:ct) (r:cf) (i:Nat) (j:Int):Decidable (Om p c r i j):=Classical.propDecidable _
def PL (c:ct) (r:cf) (x:jk):Prop:=0<=x.partner/\x.partner<c.states.length/\x.partner≠x.process/\c.states.getD x.partner.toNat 0=r.pfrom
def PM (p:av) (c:ct) (r:cf) (i:Nat):Prop:=Ol p c r i/\JE c r.left (nF p c i)/\JE c r.right (nS p c i)/\JE c r.parent (nP p c i)
def On (p:av) (s:dV) (c:ct) (r:cf) (x:jk) (f:Bool):Prop:=
 if r.kind=2\/r.kind=5 then PL c r x/\(r.kind=2\/Om p c r x.process.toNat x.partner)
 else x.partner=-1/\(if r.kind=1 then Oj p s c r f/\Ok c r x.process else if r.kind=3 then True else PM p c r x.process.toNat)
def QW (p:av) (s:dV) (c:ct) (r:cf) (x:jk) (f:Bool):Prop:=c.states.getD x.process.toNat 0=r.src/\(r.read=-1\/c.value=r.read)/\On p s c r x f
def Oo (p:av) (s:dV) (c:ct) (x:jk) (f:Bool):Prop:=((0<=x.rule/\x.rule<p.rules.length)/\(0<=x.process/\x.process<c.states.length))/\QW p s c (p.rules.getD x.rule.toNat ax) x f
noncomputable instance decEn (p:av) (s:dV) (c:ct) (x:jk) (f:Bool):Decidable (Oo p s c x f):=Classical.propDecidable _
theorem kz.read {p:av} {r:cf} (h:kz p r):-1<=r.read/\-1<=r.write/\r.read<p.values.length/\r.write<p.values.length:=by
 have hk:=h.kin
 have hs:=h.sur
 have hf:=h.fit
 unfold i7 at hf
 unfold dN at hk
 by_cases k1:r.kind=1
 ·rw[if_pos k1] at hk
  have hz:=dQ hk
  have a:=nh (hz (iO p.values.length r.read) (by simp))
  have b:=nh (hz (iO p.values.length r.write) (by simp))
  omega
 rw[if_neg k1] at hk
 by_cases k2:r.kind=2
 ·rw[if_pos k2] at hk
  have hz:=dQ hk
  have a:=nh (hz (iO p.values.length r.read) (by simp))
  have b:=nh (hz (iO p.values.length r.write) (by simp))
  omega
 rw[if_neg k2] at hk
 by_cases k3:r.kind=3
 ·rw[if_pos k3] at hk
  have hz:=dQ hk
  have a:=nh (hz (iO p.values.length r.read) (by simp))
  have b:=nh (hz (iO p.values.length r.write) (by simp))
  omega
 ·unfold jI at hs
  omega
theorem kz.guards {p:av} {r:cf} (h:kz p r) (hk:r.kind=1):ci p.messages.length r.guards=0:=by
 have:=h.kin
 unfold dN at this
 rw[if_pos hk] at this
 exact dQ this _ (by simp)
end
end Go.Proofs.YtekmminpfhacpaaGreatDoor
