import Derived.Test.YtekmminpfhacpaaGreatDoorFuA
set_option linter.unusedVariables false
set_option linter.unusedSimpArgs false
namespace Go.Proofs.YtekmminpfhacpaaGreatDoor
set_option maxRecDepth 100000
set_option maxHeartbeats 8000000
structure yC where
 src:List Int
 mult:List Int
 div:Int
structure BZ where
 lines:List yC
 var:Int
 at_:Int
 left:Int
 right:Int
def Hc:yC:=⟨[],[],0⟩
def lL:BZ:=⟨[],0,0,0,0⟩
def Hd (vars:Nat) (rows:List eN) (d:yC):Nat->List Int
 |0=>List.replicate vars 0
 |i+1=>
  if d.src.getD i 0<0 then(Hd vars rows d i).set (-1-d.src.getD i 0).toNat ((Hd vars rows d i).getD (-1-d.src.getD i 0).toNat 0+d.mult.getD i 0)
  else(List.range vars).map fun j=>(Hd vars rows d i).getD j 0+d.mult.getD i 0*(rows.getD (d.src.getD i 0).toNat eZ).coef.getD j 0
def Ia (rows:List eN) (d:yC):Nat->Int
 |0=>0
 |i+1=>if d.src.getD i 0<0 then Ia rows d i else Ia rows d i+d.mult.getD i 0*(rows.getD (d.src.getD i 0).toNat eZ).const
def He (vars n:Nat) (d:yC) (i:Nat):Prop:=(-(vars:Int)<=d.src.getD i 0/\d.src.getD i 0<n)/\1<=d.mult.getD i 0/\d.mult.getD i 0<=65536
instance (vars n:Nat) (d:yC) (i:Nat):Decidable (He vars n d i):=inferInstanceAs (Decidable (_/\_))
def Hf (d:yC):Prop:=d.src.length=d.mult.length/\(1<=d.src.length/\d.src.length<=64)/\1<=d.div/\d.div<=68719476736
instance (d:yC):Decidable (Hf d):=inferInstanceAs (Decidable (_/\_))
def I0 (a d:Int):Int:=if a.tmod d<0 then a.tdiv d-1 else a.tdiv d
def IG (vars:Nat) (rows:List eN) (d:yC):eN:=⟨(Hd vars rows d d.src.length).map (·.tdiv d.div),I0 (Ia rows d d.src.length) d.div⟩
def IH (vars:Nat) (rows:List eN) (d:yC):Prop:=
 Hf d/\(∀i,i<d.src.length->He vars rows.length d i)/\(∀j,j<vars->((Hd vars rows d d.src.length).getD j 0).tmod d.div=0)/\Fe (IG vars rows d)
instance (vars:Nat) (rows:List eN) (d:yC):Decidable (IH vars rows d):=inferInstanceAs (Decidable (_/\_))
def Hg (vars n i:Nat) (x:BZ):Prop:=x.var=-1\/((0<=x.var/\x.var<vars)/\(0<=x.at_/\x.at_<=1048576)/\((i:Int)<x.left/\x.left<n)/\((i:Int)<x.right/\x.right<n))
instance (vars n i:Nat) (x:BZ):Decidable (Hg vars n i x):=inferInstanceAs (Decidable (_\/_))
def Hh (nodes:List BZ) (c:Int):Nat->Int
 |0=>0
 |k+1=>Hh nodes c k+(if(nodes.getD k lL).var=-1 then 0 else(if(nodes.getD k lL).left=c then 1 else 0)+(if(nodes.getD k lL).right=c then 1 else 0))
def Hi (nodes:List BZ):Nat->Nat
 |0=>0
 |k+1=>Hi nodes k+(nodes.getD k lL).lines.length
def Hj (vars:Nat) (nodes:List BZ):Prop:=
 (1<=nodes.length/\nodes.length<=400)/\(∀i,i<nodes.length->Hg vars nodes.length i (nodes.getD i lL))/\(∀i,i<nodes.length->0<i->Hh nodes i nodes.length=1)/\Hi nodes nodes.length<=400
instance (vars:Nat) (nodes:List BZ):Decidable (Hj vars nodes):=inferInstanceAs (Decidable (_/\_))
def Hk (r:eN):Prop:=(∀j,j<r.coef.length->r.coef.getD j 0<=0)/\r.const<0
instance (r:eN):Decidable (Hk r):=inferInstanceAs (Decidable (_/\_))
def Ep (l:List eN):Prop:=∃j,j<l.length/\Hk (l.getD j eZ)
instance (l:List eN):Decidable (Ep l):=inferInstanceAs (Decidable (∃j,j<l.length/\_))
def II (vars:Nat) (rows:List eN) (l:List yC):Nat->Option (List eN)
 |0=>some rows
 |k+1=>match II vars rows l k with
  |none=>none
  |some a=>if IH vars a (l.getD k Hc) then some (a++[IG vars a (l.getD k Hc)]) else none
def Ib (vars:Nat) (v k:Int):eN:=⟨(List.replicate vars 0).set v.toNat (-1),k⟩
def Ic (vars:Nat) (v k:Int):eN:=⟨(List.replicate vars 0).set v.toNat 1,-k⟩
def FM (vars:Nat) (nodes:List BZ):Nat->Nat->List eN->Bool
 |0,_,_=>false
 |m+1,i,rows=>match II vars rows (nodes.getD i lL).lines (nodes.getD i lL).lines.length with
  |none=>false
  |some a=>if(nodes.getD i lL).var=-1 then decide (Ep a)
   else FM vars nodes m (nodes.getD i lL).left.toNat (a++[Ib vars (nodes.getD i lL).var (nodes.getD i lL).at_])&&FM vars nodes m (nodes.getD i lL).right.toNat (a++[Ic vars (nodes.getD i lL).var ((nodes.getD i lL).at_+1)])
def Ie (s:vn) (nodes:List BZ):Prop:=G6 s=0/\Hj s.vars.toNat nodes/\FM s.vars.toNat nodes nodes.length 0 s.rows=true
instance (s:vn) (nodes:List BZ):Decidable (Ie s nodes):=inferInstanceAs (Decidable (_/\_))
structure Ig (vars:Nat) (x:List Int) (rows:List eN):Prop where
 len:x.length=vars
 pos:∀j,0<=x.getD j 0
 sat:∀j,j<rows.length->0<=Fg (rows.getD j eZ) x
theorem Ig.app {vars:Nat} {x:List Int} {rows:List eN} {r:eN} (h:Ig vars x rows) (hr:0<=Fg r x):Ig vars x (rows++[r]):=by
 refine⟨h.len,h.pos,fun j hj=>?_⟩
 rw[List.length_append] at hj
 by_cases e:j<rows.length
 ·rw[gD,List.getElem?_append_left e,<-gD];exact h.sat j e
 ·have:j=rows.length:=by simp only[List.length_cons,List.length_nil] at hj;omega
  subst this
  rw[gD,List.getElem?_append_right (Nat.le_refl _),Nat.sub_self]
  exact hr
set_option maxHeartbeats 16000000
def Ih (r:eN) (x:List Int):Prop:=r.coef.length=x.length/\x.length<=96/\Ff x
instance (r:eN) (x:List Int):Decidable (Ih r x):=inferInstanceAs (Decidable (_/\_))
set_option maxHeartbeats 32000000
end Go.Proofs.YtekmminpfhacpaaGreatDoor
