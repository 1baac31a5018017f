import Derived.Test.YtekmminpfhacpaaGreatDoorFS
set_option linter.unusedVariables false
set_option linter.unusedSimpArgs false
namespace Go.Proofs.YtekmminpfhacpaaGreatDoor
set_option maxRecDepth 100000
set_option maxHeartbeats 16000000
def Sd (p:ap) (q:aJ) (s:aN) (r:Rn):Prop:=QO p q s=0/\q.kind=1/\MO p q s r.start/\dB p s r.start r.steps/\Qm p q ((kT p r.start r.steps).getD r.steps.length cf)
noncomputable instance decVio (p:ap) (q:aJ) (s:aN) (r:Rn):Decidable (Sd p q s r):=Classical.propDecidable _
theorem fp.plain {p:ap} {s:aN} {c:aD} (h:fp p s c):SB p c:=by
 have hv:=h.vc
 have hf:=h.sz
 have hl:=hv.len
 refine⟨hv.sta,by rw[hv.cor];omega,?_⟩
 rw[hv.cor,hl]
 unfold iy
 split<;>omega
theorem qR {p:ap} {s:aN}:∀{a b:List bX} {c:aD},dB p s c (a++b)↔dB p s c a/\dB p s ((kT p c a).getD a.length cf) b
 |[],b,c=>by simp[dB,kT,tr]
 |x::a,b,c=>by
  have ih:=qR (p:=p) (s:=s) (a:=a) (b:=b) (c:=fQ c (cQ p x) x)
  simp only[List.cons_append,dB,ih]
  constructor
  ·rintro⟨h1,h2,h3,h4⟩;exact⟨⟨h1,h2,h3⟩,h4⟩
  ·rintro⟨⟨h1,h2,h3⟩,h4⟩;exact⟨h1,h2,h3,h4⟩
theorem Dn {p:ap} (a b:List bX) (c:aD):(kT p c (a++b)).getD (a++b).length cf=(kT p ((kT p c a).getD a.length cf) b).getD b.length cf:=by
 induction a generalizing c with
 |nil=>rfl
 |cons x a ih=>exact ih (fQ c (cQ p x) x)
structure Se where
 start:aD
 pre:List bX
 loop:List bX
def Sf (p:ap) (l:Se):aD:=(kT p l.start l.pre).getD l.pre.length cf
def MP (p:ap) (s:aN) (b:List aD) (loop:List bX) (r i:Int):Prop:=(∃x∈loop,x.rule=r/\x.process=i)\/∃d∈b,¬R6 p s d r i
structure O2 (p:ap) (q:aJ) (s:aN) (R:aD->Prop) (m:aD) (loop:List bX):Prop where
 run:dB p s m loop
 back:(kT p m loop).getD loop.length cf=m
 not:∀d∈kT p m loop,¬R d
 free:∀r i:Nat,r<p.rules.length->(i:Int)<s.n-s.f->MP p s (kT p m loop) loop r i
def Sg (p:ap) (q:aJ) (s:aN) (R:aD->Prop) (l:Se):Prop:=QO p q s=0/\q.kind=2/\MO p q s l.start/\dB p s l.start l.pre/\(∀d∈kT p l.start l.pre,¬R d)/\O2 p q s R (Sf p l) l.loop
structure QQ (l:List bX) (f:Int×Int->Option Bool):Prop where
 yes:∀a b,f a=some b->b=true/\∃x∈l,(x.rule,x.process)=a
 no:∀a,f a=none->∀x∈l,(x.rule,x.process)≠a
theorem QQ.nil:QQ [] (fun _=>none):=⟨fun _ _ h=>(by cases h),fun _ _ x hx=>absurd hx List.not_mem_nil⟩
theorem QQ.up {l:List bX} {k:Nat} {f:Int×Int->Option Bool} (h:QQ (l.take k) f) (hk:k<l.length):QQ (l.take (k+1)) (uz f ((l.getD k cX).rule,(l.getD k cX).process) true):=by
 have e:l.getD k cX=l[k]:=by rw[gD,gL hk];rfl
 rw[List.take_succ_eq_append_getElem hk,e]
 refine⟨fun a b hb=>?_,fun a ha x hx=>?_⟩
 ·by_cases c:a=(l[k].rule,l[k].process)
  ·subst c
   rw[gJ] at hb
   cases hb
   exact⟨rfl,l[k],List.mem_append_right _ List.mem_cons_self,rfl⟩
  ·rw[jF _ _ c] at hb
   obtain⟨h1,x,hx,hh⟩:=h.yes a b hb
   exact⟨h1,x,List.mem_append_left _ hx,hh⟩
 ·have c:a≠(l[k].rule,l[k].process):=fun c=>by subst c;rw[gJ] at ha;cases ha
  rw[jF _ _ c] at ha
  rcases List.mem_append.1 hx with hx|hx
  ·exact h.no a ha x hx
  ·rw[List.mem_singleton] at hx;subst hx;exact fun e=>c e.symm
def QR (p:ap) (s:aN) (b:List aD) (loop:List bX):Prop:=∀r i:Nat,r<p.rules.length->(i:Int)<s.n-s.f->MP p s b loop r i
noncomputable instance decFair (p:ap) (s:aN) (b:List aD) (loop:List bX):Decidable (QR p s b loop):=Classical.propDecidable _
noncomputable instance decLas (p:ap) (q:aJ) (s:aN) (l:Se):Decidable (Sg p q s (Qj q) l):=Classical.propDecidable _
end Go.Proofs.YtekmminpfhacpaaGreatDoor
