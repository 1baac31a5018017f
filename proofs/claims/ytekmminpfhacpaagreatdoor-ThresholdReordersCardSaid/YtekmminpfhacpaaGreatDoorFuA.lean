import Derived.Test.YtekmminpfhacpaaGreatDoorPlR
set_option linter.unusedVariables false
set_option linter.unusedSimpArgs false
namespace Go.Proofs.YtekmminpfhacpaaGreatDoor
set_option maxRecDepth 100000
set_option maxHeartbeats 8000000
structure kp where
 vars:Int
 rows:List fo
def Au (s:kp):List AV:=[.int .i64 s.vars, .sl cP dM s.rows]
def rA (n:Int):Prop:=-68719476736<=n/\n<=68719476736
instance (n:Int):Decidable (rA n):=inferInstanceAs (Decidable (_/\_))
def E2 (l:List Int):Prop:=∀j,j<l.length->rA (l.getD j 0)
instance (l:List Int):Decidable (E2 l):=inferInstanceAs (Decidable (∀j,j<l.length->_))
def uK (r:fo):Prop:=E2 r.coef/\rA r.const
instance (r:fo):Decidable (uK r):=inferInstanceAs (Decidable (_/\_))
def uL (s:kp):Prop:=∀j,j<s.rows.length->((s.rows.getD j cP).coef.length:Int)=s.vars
instance (s:kp):Decidable (uL s):=inferInstanceAs (Decidable (∀j,j<s.rows.length->_))
def Cm (l:List fo):Prop:=∀j,j<l.length->uK (l.getD j cP)
instance (l:List fo):Decidable (Cm l):=inferInstanceAs (Decidable (∀j,j<l.length->_))
def kL (s:kp):Int:=if s.vars<0\/96<s.vars then 1 else if¬uL s then 1 else if 192<s.rows.length then 4 else if¬Cm s.rows then 4 else 0
theorem Av {s:kp} (h:kL s=0):(0<=s.vars/\s.vars<=96)/\uL s/\s.rows.length<=192/\Cm s.rows:=by
 unfold kL at h
 by_cases h1:s.vars<0\/96<s.vars
 ·rw[if_pos h1] at h;omega
 rw[if_neg h1] at h
 by_cases h2:¬uL s
 ·rw[if_pos h2] at h;omega
 rw[if_neg h2] at h
 by_cases h3:192<s.rows.length
 ·rw[if_pos h3] at h;omega
 rw[if_neg h3] at h
 by_cases h4:¬Cm s.rows
 ·rw[if_pos h4] at h;omega
 exact⟨by omega,Classical.not_not.1 h2,by omega,Classical.not_not.1 h4⟩
theorem Aw {s:kp} (h1:0<=s.vars/\s.vars<=96) (h2:uL s) (h3:s.rows.length<=192) (h4:Cm s.rows):kL s=0:=by
 unfold kL
 rw[if_neg (by omega),if_neg (fun h=>h h2),if_neg (by omega),if_neg (fun h=>h h4)]
def E3 (x:List Int):Prop:=∀j,j<x.length->0<=x.getD j 0/\x.getD j 0<=1048576
instance (x:List Int):Decidable (E3 x):=inferInstanceAs (Decidable (∀j,j<x.length->_))
def pQ (c x:List Int):Nat->Int
 |0=>0
 |k+1=>pQ c x k+c.getD k 0*x.getD k 0
def uM (r:fo) (x:List Int):Int:=r.const+pQ r.coef x r.coef.length
theorem E4 {a b:Int} (ha:rA a) (hb:0<=b/\b<=1048576):-72057594037927936<=a*b/\a*b<=72057594037927936:=by
 have h1:a*b<=68719476736*b:=Int.mul_le_mul_of_nonneg_right ha.2 hb.1
 have h2:-68719476736*b<=a*b:=Int.mul_le_mul_of_nonneg_right ha.1 hb.1
 omega
theorem E5 {c x:List Int} (hc:E2 c) (hx:E3 x) (hl:c.length=x.length):∀k,k<=c.length->-72057594037927936*(k:Int)<=pQ c x k/\pQ c x k<=72057594037927936*(k:Int)
 |0,_=>by simp[pQ]
 |k+1,hk=>by
  have a:=E5 hc hx hl k (by omega)
  have b:=E4 (hc k (by omega)) (hx k (by omega))
  rw[pQ]
  omega
def o8 (s:kp) (x:List Int):Prop:=kL s=0/\(x.length:Int)=s.vars/\E3 x/\∀j,j<s.rows.length->0<=uM (s.rows.getD j cP) x
instance (s:kp) (x:List Int):Decidable (o8 s x):=inferInstanceAs (Decidable (_/\_))
end Go.Proofs.YtekmminpfhacpaaGreatDoor
