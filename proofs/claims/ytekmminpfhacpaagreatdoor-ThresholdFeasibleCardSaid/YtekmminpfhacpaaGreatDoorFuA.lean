import Derived.Test.YtekmminpfhacpaaGreatDoorPlR
set_option linter.unusedVariables false
set_option linter.unusedSimpArgs false
namespace Go.Proofs.YtekmminpfhacpaaGreatDoor
set_option maxRecDepth 100000
set_option maxHeartbeats 8000000
structure dN where
 vars:Int
 rows:List br
def ro (s:dN):List AV:=[.int .i64 s.vars, .sl av aE s.rows]
def iB (n:Int):Prop:=-68719476736<=n/\n<=68719476736
instance (n:Int):Decidable (iB n):=inferInstanceAs (Decidable (_/\_))
def CS (l:List Int):Prop:=∀j,j<l.length->iB (l.getD j 0)
instance (l:List Int):Decidable (CS l):=inferInstanceAs (Decidable (∀j,j<l.length->_))
def lz (r:br):Prop:=CS r.coef/\iB r.const
instance (r:br):Decidable (lz r):=inferInstanceAs (Decidable (_/\_))
def uK (s:dN):Prop:=∀j,j<s.rows.length->((s.rows.getD j av).coef.length:Int)=s.vars
instance (s:dN):Decidable (uK s):=inferInstanceAs (Decidable (∀j,j<s.rows.length->_))
def EP (l:List br):Prop:=∀j,j<l.length->lz (l.getD j av)
instance (l:List br):Decidable (EP l):=inferInstanceAs (Decidable (∀j,j<l.length->_))
def fH (s:dN):Int:=if s.vars<0\/96<s.vars then 1 else if¬uK s then 1 else if 192<s.rows.length then 4 else if¬EP s.rows then 4 else 0
theorem lA {s:dN} (h:fH s=0):(0<=s.vars/\s.vars<=96)/\uK s/\s.rows.length<=192/\EP s.rows:=by
 unfold fH at h
 by_cases h1:s.vars<0\/96<s.vars
 ·rw[if_pos h1] at h;omega
 rw[if_neg h1] at h
 by_cases h2:¬uK s
 ·rw[if_pos h2] at h;omega
 rw[if_neg h2] at h
 by_cases h3:192<s.rows.length
 ·rw[if_pos h3] at h;omega
 rw[if_neg h3] at h
 by_cases h4:¬EP s.rows
 ·rw[if_pos h4] at h;omega
 exact⟨by omega,Classical.not_not.1 h2,by omega,Classical.not_not.1 h4⟩
theorem xb {s:dN} (h1:0<=s.vars/\s.vars<=96) (h2:uK s) (h3:s.rows.length<=192) (h4:EP s.rows):fH s=0:=by
 unfold fH
 rw[if_neg (by omega),if_neg (fun h=>h h2),if_neg (by omega),if_neg (fun h=>h h4)]
def jz (x:List Int):Prop:=∀j,j<x.length->0<=x.getD j 0/\x.getD j 0<=1048576
instance (x:List Int):Decidable (jz x):=inferInstanceAs (Decidable (∀j,j<x.length->_))
def dw (c x:List Int):Nat->Int
 |0=>0
 |k+1=>dw c x k+c.getD k 0*x.getD k 0
def kC (r:br) (x:List Int):Int:=r.const+dw r.coef x r.coef.length
theorem Bu {a b:Int} (ha:iB a) (hb:0<=b/\b<=1048576):-72057594037927936<=a*b/\a*b<=72057594037927936:=by
 have h1:a*b<=68719476736*b:=Int.mul_le_mul_of_nonneg_right ha.2 hb.1
 have h2:-68719476736*b<=a*b:=Int.mul_le_mul_of_nonneg_right ha.1 hb.1
 omega
theorem Bv {c x:List Int} (hc:CS c) (hx:jz x) (hl:c.length=x.length):∀k,k<=c.length->-72057594037927936*(k:Int)<=dw c x k/\dw c x k<=72057594037927936*(k:Int)
 |0,_=>by simp[dw]
 |k+1,hk=>by
  have a:=Bv hc hx hl k (by omega)
  have b:=Bu (hc k (by omega)) (hx k (by omega))
  rw[dw]
  omega
def pB (s:dN) (x:List Int):Prop:=fH s=0/\(x.length:Int)=s.vars/\jz x/\∀j,j<s.rows.length->0<=kC (s.rows.getD j av) x
instance (s:dN) (x:List Int):Decidable (pB s x):=inferInstanceAs (Decidable (_/\_))
end Go.Proofs.YtekmminpfhacpaaGreatDoor
