import Derived.Test.YtnjggjhkfncnlaaGreatDoorPlR
set_option linter.unusedVariables false
set_option linter.unusedSimpArgs false
namespace Go.Proofs.YtnjggjhkfncnlaaGreatDoor
set_option maxRecDepth 100000
set_option maxHeartbeats 8000000
structure iq where
 vars:Int
 rows:List cK
def qb (s:iq):List AV:=[.int .i64 s.vars, .sl bz bE s.rows]
def nD (n:Int):Prop:=-68719476736<=n/\n<=68719476736
instance (n:Int):Decidable (nD n):=inferInstanceAs (Decidable (_/\_))
def Cb (l:List Int):Prop:=∀j,j<l.length->nD (l.getD j 0)
instance (l:List Int):Decidable (Cb l):=inferInstanceAs (Decidable (∀j,j<l.length->_))
def ou (r:cK):Prop:=Cb r.coef/\nD r.const
instance (r:cK):Decidable (ou r):=inferInstanceAs (Decidable (_/\_))
def qU (s:iq):Prop:=∀j,j<s.rows.length->((s.rows.getD j bz).coef.length:Int)=s.vars
instance (s:iq):Decidable (qU s):=inferInstanceAs (Decidable (∀j,j<s.rows.length->_))
def zL (l:List cK):Prop:=∀j,j<l.length->ou (l.getD j bz)
instance (l:List cK):Decidable (zL l):=inferInstanceAs (Decidable (∀j,j<l.length->_))
def iV (s:iq):Int:=if s.vars<0\/96<s.vars then 1 else if¬qU s then 1 else if 192<s.rows.length then 4 else if¬zL s.rows then 4 else 0
theorem te {s:iq} (h:iV s=0):(0<=s.vars/\s.vars<=96)/\qU s/\s.rows.length<=192/\zL s.rows:=by
 unfold iV at h
 by_cases h1:s.vars<0\/96<s.vars
 ·rw[if_pos h1] at h;omega
 rw[if_neg h1] at h
 by_cases h2:¬qU s
 ·rw[if_pos h2] at h;omega
 rw[if_neg h2] at h
 by_cases h3:192<s.rows.length
 ·rw[if_pos h3] at h;omega
 rw[if_neg h3] at h
 by_cases h4:¬zL s.rows
 ·rw[if_pos h4] at h;omega
 exact⟨by omega,Classical.not_not.1 h2,by omega,Classical.not_not.1 h4⟩
theorem tf {s:iq} (h1:0<=s.vars/\s.vars<=96) (h2:qU s) (h3:s.rows.length<=192) (h4:zL s.rows):iV s=0:=by
 unfold iV
 rw[if_neg (by omega),if_neg (fun h=>h h2),if_neg (by omega),if_neg (fun h=>h h4)]
def w9 (x:List Int):Prop:=∀j,j<x.length->0<=x.getD j 0/\x.getD j 0<=1048576
instance (x:List Int):Decidable (w9 x):=inferInstanceAs (Decidable (∀j,j<x.length->_))
def lR (c x:List Int):Nat->Int
 |0=>0
 |k+1=>lR c x k+c.getD k 0*x.getD k 0
def qc (r:cK) (x:List Int):Int:=r.const+lR r.coef x r.coef.length
theorem xa {a b:Int} (ha:nD a) (hb:0<=b/\b<=1048576):-72057594037927936<=a*b/\a*b<=72057594037927936:=by
 have h1:a*b<=68719476736*b:=Int.mul_le_mul_of_nonneg_right ha.2 hb.1
 have h2:-68719476736*b<=a*b:=Int.mul_le_mul_of_nonneg_right ha.1 hb.1
 omega
theorem xb {c x:List Int} (hc:Cb c) (hx:w9 x) (hl:c.length=x.length):∀k,k<=c.length->-72057594037927936*(k:Int)<=lR c x k/\lR c x k<=72057594037927936*(k:Int)
 |0,_=>by simp[lR]
 |k+1,hk=>by
  have a:=xb hc hx hl k (by omega)
  have b:=xa (hc k (by omega)) (hx k (by omega))
  rw[lR]
  omega
def vj (s:iq) (x:List Int):Prop:=iV s=0/\(x.length:Int)=s.vars/\w9 x/\∀j,j<s.rows.length->0<=qc (s.rows.getD j bz) x
instance (s:iq) (x:List Int):Decidable (vj s x):=inferInstanceAs (Decidable (_/\_))
end Go.Proofs.YtnjggjhkfncnlaaGreatDoor
