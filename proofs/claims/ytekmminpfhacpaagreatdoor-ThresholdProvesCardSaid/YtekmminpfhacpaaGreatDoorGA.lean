import Derived.Test.YtekmminpfhacpaaGreatDoorW0
import Derived.Test.YtekmminpfhacpaaGreatDoorA1
set_option linter.unusedVariables false
set_option linter.unusedSimpArgs false
namespace Go.Proofs.YtekmminpfhacpaaGreatDoor
set_option maxRecDepth 100000
set_option maxHeartbeats 8000000
set_option maxHeartbeats 16000000
def Qc (p:av) (s:dV) (c:ct) (m:Int):Int:=c.sent.getD m.toNat 0+(if p.fault=1\/p.fault=2 then c.faulty.getD m.toNat 0 else if p.fault=3 then s.f else 0)
def EM (p:av) (s:dV) (c:ct) (i:Nat):Prop:=Gj ((ay p.rules).getD i aM).bound s<=((ay p.rules).getD i aM).coef*Qc p s c ((ay p.rules).getD i aM).message
instance (p:av) (s:dV) (c:ct) (i:Nat):Decidable (EM p s c i):=inferInstanceAs (Decidable (_<=_))
def f8 (p:av) (s:dV) (c:ct):Nat->List Int
 |0=>[]
 |k+1=>if EM p s c k then f8 p s c k++[(k:Int)] else f8 p s c k
theorem uc (p:av) (s:dV) (c:ct) {a:Int}:∀{k:Nat},a∈f8 p s c k↔∃i:Nat,i<k/\a=i/\EM p s c i
 |0=>by simp[f8]
 |k+1=>by
  rw[f8]
  have ih:=uc p s c (a:=a) (k:=k)
  by_cases h:EM p s c k
  ·rw[if_pos h,List.mem_append,ih,List.mem_singleton]
   constructor
   ·rintro(⟨i,h1,h2,h3⟩|rfl)
    ·exact⟨i,by omega,h2,h3⟩
    ·exact⟨k,by omega,rfl,h⟩
   ·rintro⟨i,h1,h2,h3⟩
    by_cases e:i=k
    ·subst e;exact .inr h2
    ·exact .inl ⟨i,by omega,h2,h3⟩
  ·rw[if_neg h,ih]
   constructor
   ·rintro⟨i,h1,h2,h3⟩
    exact⟨i,by omega,h2,h3⟩
   ·rintro⟨i,h1,h2,h3⟩
    refine⟨i,?_,h2,h3⟩
    by_cases e:i=k
    ·subst e;exact absurd h3 h
    ·omega
def Qe (p:av) (s:dV) (c:ct):Prop:=∀r:Nat,r<p.rules.length->∀i:Nat,i<c.states.length->¬Qb p s c (r:Int) (i:Int)
noncomputable instance decStp (p:av) (s:dV) (c:ct):Decidable (Qe p s c):=Classical.propDecidable _
end Go.Proofs.YtekmminpfhacpaaGreatDoor
