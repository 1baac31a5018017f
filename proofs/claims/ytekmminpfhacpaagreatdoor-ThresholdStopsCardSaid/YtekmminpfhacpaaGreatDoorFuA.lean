import Derived.Test.YtekmminpfhacpaaGreatDoorPlR
set_option linter.unusedVariables false
set_option linter.unusedSimpArgs false
namespace Go.Proofs.YtekmminpfhacpaaGreatDoor
set_option maxRecDepth 100000
set_option maxHeartbeats 8000000
structure vn where
 vars:Int
 rows:List eN
def Fd (n:Int):Prop:=-68719476736<=n/\n<=68719476736
instance (n:Int):Decidable (Fd n):=inferInstanceAs (Decidable (_/\_))
def Ek (l:List Int):Prop:=∀j,j<l.length->Fd (l.getD j 0)
instance (l:List Int):Decidable (Ek l):=inferInstanceAs (Decidable (∀j,j<l.length->_))
def Fe (r:eN):Prop:=Ek r.coef/\Fd r.const
instance (r:eN):Decidable (Fe r):=inferInstanceAs (Decidable (_/\_))
def G4 (s:vn):Prop:=∀j,j<s.rows.length->((s.rows.getD j eZ).coef.length:Int)=s.vars
instance (s:vn):Decidable (G4 s):=inferInstanceAs (Decidable (∀j,j<s.rows.length->_))
def G5 (l:List eN):Prop:=∀j,j<l.length->Fe (l.getD j eZ)
instance (l:List eN):Decidable (G5 l):=inferInstanceAs (Decidable (∀j,j<l.length->_))
def G6 (s:vn):Int:=if s.vars<0\/96<s.vars then 1 else if¬G4 s then 1 else if 192<s.rows.length then 4 else if¬G5 s.rows then 4 else 0
def Ff (x:List Int):Prop:=∀j,j<x.length->0<=x.getD j 0/\x.getD j 0<=1048576
instance (x:List Int):Decidable (Ff x):=inferInstanceAs (Decidable (∀j,j<x.length->_))
def G7 (c x:List Int):Nat->Int
 |0=>0
 |k+1=>G7 c x k+c.getD k 0*x.getD k 0
def Fg (r:eN) (x:List Int):Int:=r.const+G7 r.coef x r.coef.length
def HT (s:vn) (x:List Int):Prop:=G6 s=0/\(x.length:Int)=s.vars/\Ff x/\∀j,j<s.rows.length->0<=Fg (s.rows.getD j eZ) x
instance (s:vn) (x:List Int):Decidable (HT s x):=inferInstanceAs (Decidable (_/\_))
end Go.Proofs.YtekmminpfhacpaaGreatDoor
