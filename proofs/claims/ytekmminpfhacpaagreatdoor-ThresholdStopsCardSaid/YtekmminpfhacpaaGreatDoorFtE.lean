import Derived.Test.YtekmminpfhacpaaGreatDoorP1
import Derived.Test.YtekmminpfhacpaaGreatDoorFuA
set_option linter.unusedVariables false
set_option linter.unusedSimpArgs false
namespace Go.Proofs.YtekmminpfhacpaaGreatDoor
set_option maxRecDepth 100000
set_option maxHeartbeats 8000000
theorem Au {a b A B:Int} (ha:-A<=a/\a<=A) (hb:-B<=b/\b<=B):-(A*B)<=a*b/\a*b<=A*B:=by
 have hA:0<=A:=by omega
 have hB:0<=B:=by omega
 have h1:(a*b).natAbs<=(A*B).natAbs:=by
  rw[Int.natAbs_mul,Int.natAbs_mul]
  exact Nat.mul_le_mul (by omega) (by omega)
 have h2:0<=A*B:=Int.mul_nonneg hA hB
 omega
theorem oQ {p:an} {i:Nat} {r:bC} (h:b9 p i r=0) {g:dB} (hg:g∈r.guards):(0<=g.message/\g.message<p.messages.length)/\(1<=g.coef/\g.coef<=100)/\eD g.bound:=by
 obtain⟨_,_,h3,_,_,h6⟩:=gk h
 by_cases k:r.kind=1
 ·unfold cu at h6
  rw[if_pos k] at h6
  have hz:=bM h6 (aZ p.messages.length r.guards) (by simp)
  unfold aZ at hz
  split at hz
  ·omega
  ·rename_i h0
   have hg0:=bM (show cb (r.guards.map (gE p.messages.length))=0 by omega) _ (List.mem_map.2 ⟨g,hg,rfl⟩)
   have hg1:=bM hg0
   have a:=hg1 (ci g.message p.messages.length) (by simp)
   have b:=hg1 (im g.coef) (by simp)
   have c:=hg1 (j9 g.bound) (by simp)
   unfold ci at a
   unfold im at b
   unfold j9 at c
   refine⟨?_,?_,?_⟩
   ·split at a<;>omega
   ·split at b<;>omega
   ·split at c
    ·assumption
    ·omega
 ·have:r.guards.length=0:=by unfold gu at h3;omega
  rw[List.length_eq_zero_iff] at this
  rw[this] at hg
  cases hg
theorem Av {acc:List dB} {g x:dB} (h:x∈gw acc g):x∈acc\/x=g:=by
 unfold gw at h
 split at h
 ·exact .inl h
 ·rcases List.mem_append.1 h with h|h
  ·exact .inl h
  ·exact .inr (List.mem_singleton.1 h)
theorem xW {gs:List dB} {x:dB}:∀{acc:List dB},x∈gs.foldl gw acc->x∈acc\/x∈gs:=by
 induction gs with
 |nil=>intro acc h;exact .inl h
 |cons g gs ih=>
  intro acc h
  rw[List.foldl_cons] at h
  rcases ih h with h|h
  ·rcases Av h with h|h
   ·exact .inl h
   ·exact .inr (h▸List.mem_cons_self)
  ·exact .inr (List.mem_cons_of_mem _ h)
theorem Aw {rs:List bC} {g:dB} (h:g∈ar rs):∃i,i<rs.length/\g∈(rs.getD i aq).guards:=by
 unfold ar at h
 rcases xW h with h|h
 ·cases h
 ·obtain⟨r,hr,hg⟩:=List.mem_flatMap.1 h
  obtain⟨i,hi,rfl⟩:=List.getElem_of_mem hr
  exact⟨i,hi,by rw[au aq hi];exact hg⟩
theorem Ax {p:an} (h:aw p=0) {g:dB} (hg:g∈ar p.rules):(0<=g.message/\g.message<p.messages.length)/\(1<=g.coef/\g.coef<=100)/\eD g.bound:=by
 obtain⟨i,hi,hm⟩:=Aw hg
 exact oQ ((bk h).rul i hi) hm
theorem Fh {p:an} (h:aw p=0):∀l∈oN p,eD l:=by
 intro l hl
 have hr:=(bk h).res
 have f:∀a b c d:Int,-100<=a/\a<=100->-100<=b/\b<=100->-100<=c/\c<=100->-100<=d/\d<=100->eD ⟨a,b,c,d⟩:=fun a b c d h1 h2 h3 h4=>⟨h1,h2,h3,h4⟩
 unfold oN at hl
 rcases List.mem_append.1 hl with hl|hl
 ·rcases List.mem_append.1 hl with hl|hl
  ·simp only[List.mem_cons,List.not_mem_nil,or_false] at hl
   rcases hl with rfl|rfl|rfl<;>exact f _ _ _ _ (by omega) (by omega) (by omega) (by omega)
  ·split at hl
   ·simp only[List.mem_cons,List.not_mem_nil,or_false] at hl
    rcases hl with rfl|rfl<;>exact f _ _ _ _ (by omega) (by omega) (by omega) (by omega)
   ·simp at hl
 ·obtain⟨i,hi,e⟩:=List.getElem_of_mem hl
  have:=hr i hi
  rwa [au eJ hi,e] at this
theorem rJ {α β:Type} (f:α->List β) (B:Nat):∀l:List α,(∀a∈l,(f a).length<=B)->(l.flatMap f).length<=B*l.length
 |[],_=>by simp
 |a::l,h=>by
  have ih:=rJ f B l fun x hx=>h x (List.mem_cons_of_mem _ hx)
  have:=h a List.mem_cons_self
  rw[List.flatMap_cons,List.length_append,List.length_cons,Nat.mul_add]
  omega
end Go.Proofs.YtekmminpfhacpaaGreatDoor
