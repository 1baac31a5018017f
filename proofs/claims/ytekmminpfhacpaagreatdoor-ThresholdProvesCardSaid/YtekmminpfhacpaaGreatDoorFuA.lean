import Derived.Test.YtekmminpfhacpaaGreatDoorPlR
set_option linter.unusedVariables false
set_option linter.unusedSimpArgs false
namespace Go.Proofs.YtekmminpfhacpaaGreatDoor
set_option maxRecDepth 100000
set_option maxHeartbeats 8000000
structure dF where
 vars:Int
 rows:List aV
def mG (s:dF):List AV:=[.int .i64 s.vars, .sl ar aw s.rows]
def ia (n:Int):Prop:=-68719476736<=n/\n<=68719476736
instance (n:Int):Decidable (ia n):=inferInstanceAs (Decidable (_/\_))
def GC (l:List Int):Prop:=∀j,j<l.length->ia (l.getD j 0)
instance (l:List Int):Decidable (GC l):=inferInstanceAs (Decidable (∀j,j<l.length->_))
def mH (r:aV):Prop:=GC r.coef/\ia r.const
instance (r:aV):Decidable (mH r):=inferInstanceAs (Decidable (_/\_))
def uQ (s:dF):Prop:=∀j,j<s.rows.length->((s.rows.getD j ar).coef.length:Int)=s.vars
instance (s:dF):Decidable (uQ s):=inferInstanceAs (Decidable (∀j,j<s.rows.length->_))
def Eu (l:List aV):Prop:=∀j,j<l.length->mH (l.getD j ar)
instance (l:List aV):Decidable (Eu l):=inferInstanceAs (Decidable (∀j,j<l.length->_))
def eZ (s:dF):Int:=if s.vars<0\/96<s.vars then 1 else if¬uQ s then 1 else if 192<s.rows.length then 4 else if¬Eu s.rows then 4 else 0
theorem lw {s:dF} (h:eZ s=0):(0<=s.vars/\s.vars<=96)/\uQ s/\s.rows.length<=192/\Eu s.rows:=by
 unfold eZ at h
 by_cases h1:s.vars<0\/96<s.vars
 ·rw[if_pos h1] at h;omega
 rw[if_neg h1] at h
 by_cases h2:¬uQ s
 ·rw[if_pos h2] at h;omega
 rw[if_neg h2] at h
 by_cases h3:192<s.rows.length
 ·rw[if_pos h3] at h;omega
 rw[if_neg h3] at h
 by_cases h4:¬Eu s.rows
 ·rw[if_pos h4] at h;omega
 exact⟨by omega,Classical.not_not.1 h2,by omega,Classical.not_not.1 h4⟩
theorem xa {s:dF} (h1:0<=s.vars/\s.vars<=96) (h2:uQ s) (h3:s.rows.length<=192) (h4:Eu s.rows):eZ s=0:=by
 unfold eZ
 rw[if_neg (by omega),if_neg (fun h=>h h2),if_neg (by omega),if_neg (fun h=>h h4)]
def lx (x:List Int):Prop:=∀j,j<x.length->0<=x.getD j 0/\x.getD j 0<=1048576
instance (x:List Int):Decidable (lx x):=inferInstanceAs (Decidable (∀j,j<x.length->_))
def gO (c x:List Int):Nat->Int
 |0=>0
 |k+1=>gO c x k+c.getD k 0*x.getD k 0
def rG (r:aV) (x:List Int):Int:=r.const+gO r.coef x r.coef.length
def Ot (s:dF) (x:List Int):Prop:=eZ s=0/\(x.length:Int)=s.vars/\lx x/\∀j,j<s.rows.length->0<=rG (s.rows.getD j ar) x
instance (s:dF) (x:List Int):Decidable (Ot s x):=inferInstanceAs (Decidable (_/\_))
end Go.Proofs.YtekmminpfhacpaaGreatDoor
