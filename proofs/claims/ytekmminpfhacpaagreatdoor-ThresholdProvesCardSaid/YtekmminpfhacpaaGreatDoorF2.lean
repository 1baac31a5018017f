import Derived.Test.YtekmminpfhacpaaGreatDoorF1
set_option linter.unusedVariables false
set_option linter.unusedSimpArgs false
namespace Go.Proofs.YtekmminpfhacpaaGreatDoor
def gx:Nat->List Int->Option (List Int)
 |0,l=>some l
 |_+1,[]=>none
 |n+1,x::xs=>if x=0 then gx n xs else if x=2 then gx (n+2) xs else none
theorem lj (l:List Int):gx 0 l=some l:=by cases l<;>rfl
theorem nf (n:Nat):gx (n+1) []=none:=rfl
theorem jw (n:Nat) (x:Int) (xs:List Int):gx (n+1) (x::xs)=if x=0 then gx n xs else if x=2 then gx (n+2) xs else none:=rfl
theorem qn:∀(l:List Int) (a b:Nat),gx (a+b) l=(gx a l).bind (gx b)
 |l,0,b=>by rw[Nat.zero_add,lj];rfl
 |[],a+1,b=>by rw[show a+1+b=(a+b)+1 by omega,nf,nf];rfl
 |x::xs,a+1,b=>by
  rw[show a+1+b=(a+b)+1 by omega,jw,jw]
  split
  ·exact qn xs a b
  ·split
   ·rw[show a+b+2=(a+2)+b by omega];exact qn xs (a+2) b
   ·rfl
theorem lk:∀(l:List Int) (n:Nat) (r:List Int),gx n l=some r->∃k,n<=k/\k<=l.length/\r=l.drop k
 |l,0,r,h=>by rw[lj] at h;cases h;exact⟨0,by omega,by omega,by simp⟩
 |[],n+1,r,h=>by rw[nf] at h;cases h
 |x::xs,n+1,r,h=>by
  rw[jw] at h
  split at h
  ·obtain⟨k,h1,h2,h3⟩:=lk xs n r h
   exact⟨k+1,by omega,by simp;omega,by simpa using h3⟩
  ·split at h
   ·obtain⟨k,h1,h2,h3⟩:=lk xs (n+2) r h
    exact⟨k+1,by omega,by simp;omega,by simpa using h3⟩
   ·cases h
def lN (l:List Int) (i:Nat):Nat:=match gx 1 (l.drop i) with
 |some r=>l.length-r.length
 |none=>0
theorem F8 {l r:List Int} {i:Nat} (h:gx 1 (l.drop i)=some r):i<lN l i/\lN l i<=l.length/\r=l.drop (lN l i):=by
 obtain⟨k,h1,h2,h3⟩:=lk _ _ _ h
 have e:lN l i=l.length-r.length:=by unfold lN;rw[h]
 rw[List.drop_drop] at h3
 have hl:(l.drop i).length=l.length-i:=List.length_drop
 have hr:r.length=l.length-(i+k):=by rw[h3,List.length_drop]
 have e2:lN l i=i+k:=by omega
 exact⟨by omega,by omega,by rw[e2,h3]⟩
theorem vz {l:List Int} {i:Nat} (h:i<l.length):l.drop i=l.getD i 0::l.drop (i+1):=by
 rw[List.drop_eq_getElem_cons h,gD,gL h]
 rfl
theorem mA:∀(l:List Int) (n:Nat) (r:List Int) (k:Nat),gx n l=some r->k+r.length<l.length->∃r',gx 1 (l.drop k)=some r'/\r.length<=r'.length
 |l,0,r,k,h,hk=>by rw[lj] at h;cases h;omega
 |[],n+1,r,k,h,hk=>by rw[nf] at h;cases h
 |x::xs,n+1,r,0,h,hk=>by
  rw[show n+1=1+n by omega,qn] at h
  obtain⟨m,hm,hr⟩:=Option.bind_eq_some_iff.1 h
  obtain⟨j,_,_,hj⟩:=lk _ _ _ hr
  exact⟨m,hm,by rw[hj];simp⟩
 |x::xs,n+1,r,k+1,h,hk=>by
  rw[jw] at h
  simp only[List.length_cons] at hk
  split at h
  ·exact mA xs n r k h (by omega)
  ·split at h
   ·exact mA xs (n+2) r k h (by omega)
   ·cases h
def shp (l:List Int):Prop:=gx 1 l=some []
instance (l:List Int):Decidable (shp l):=inferInstanceAs (Decidable (gx 1 l=some []))
theorem shp.at {l:List Int} (h:shp l) {i:Nat} (hi:i<l.length):gx 1 (l.drop i)=some (l.drop (lN l i))/\i<lN l i/\lN l i<=l.length:=by
 obtain⟨r,hr,_⟩:=mA l 1 [] i h (by simpa using hi)
 obtain⟨h1,h2,h3⟩:=F8 hr
 exact⟨by rw[hr,h3],h1,h2⟩
def NZ (l:List Int) (j k:Nat):Bool:=decide (l.getD k 0=2)&&(decide (k+1=j)||decide (lN l (k+1)=j))
def N4 (l:List Int) (j:Nat):Nat->Int
 |0=>-1
 |n+1=>if NZ l j n then(n:Int) else N4 l j n
def LJ (l:List Int) (i:Nat):Int:=if l.getD i 0=2 then((i+1:Nat):Int) else -1
def Jj (l:List Int) (i:Nat):Int:=if l.getD i 0=2 then(lN l (i+1):Int) else -1
def Jk (l:List Int) (i:Nat):Int:=N4 l i i
set_option maxRecDepth 100000
def fW (l:List Int):bf:=.row 3 0 al l
set_option maxRecDepth 100000
theorem yW (l:List Int) (i k:Nat) (v:Int):(l.set i v).getD k 0=if i=k/\i<l.length then v else l.getD k 0:=by
 rw[gD,List.getElem?_set]
 by_cases h:i=k
 ·subst h
  by_cases h2:i<l.length
  ·simp[h2]
  ·simp[h2,gD]
 ·simp[h,gD]
theorem Jl {l:List Int} {n:Nat} (hl:l.length=n) {g:Nat->Int} (h:∀k,k<n->l.getD k 0=g k):l=(List.range n).map g:=by
 apply List.ext_getElem
 ·simp[hl]
 ·intro i h1 h2
  have:=h i (by omega)
  rw[gD,gL h1] at this
  simpa using this
theorem tu (n k:Nat) (g:Nat->Int) (h:k<n):((List.range n).map g).getD k 0=g k:=by
 simp[gD,h]
instance (l:List Int):Decidable (shp l):=inferInstanceAs (Decidable (gx 1 l=some []))
def PF (t:Int) (l:List Int) (n:Nat):Bool:=decide (t=4->shp l/\l.length=n)
def QA (t:Int) (l:List Int) (n i:Nat):Int:=if t=2 then(i:Int)-1 else if t=3 then(if i=0 then(n:Int)-1 else(i:Int)-1) else if t=4/\PF t l n=true then LJ l i else -1
def QB (t:Int) (l:List Int) (n i:Nat):Int:=if t=2 then(if i+1=n then -1 else(i:Int)+1) else if t=3 then(if i+1=n then 0 else(i:Int)+1) else if t=4/\PF t l n=true then Jj l i else -1
def QQ (t:Int) (l:List Int) (n i:Nat):Int:=if t=4/\PF t l n=true then Jk l i else -1
set_option maxRecDepth 100000
set_option maxRecDepth 100000
structure ct where
 shape:List Int
 states:List Int
 correct:Int
 sent:List Int
 faulty:List Int
 value:Int
def ll:ct:=⟨[],[],0,[],[],0⟩
def vB (c:ct):Bool:=decide (100<c.shape.length)||decide (100<c.states.length)||decide (100<c.sent.length)||decide (100<c.faulty.length)
def dH:List Int->Int
 |[]=>0
 |x::l=>if x≠0 then x else dH l
theorem yX {l:List Int} {k:Nat} (h:k<l.length):dH (l.drop k)=if l.getD k 0≠0 then l.getD k 0 else dH (l.drop (k+1)):=by
 rw[vz h];rfl
theorem F9 (a b:List Int):fL b a=-fL a b:=by
 induction a generalizing b with
 |nil=>cases b<;>rfl
 |cons x xs ih=>
  cases b with
  |nil=>rfl
  |cons y ys=>
   simp only[fL]
   by_cases h1:x<y
   ·rw[if_neg (by omega),if_pos h1,if_pos h1];rfl
   ·by_cases h2:y<x
    ·rw[if_pos h2,if_neg h1,if_pos h2]
    ·rw[if_neg h2,if_neg h1,if_neg h1,if_neg h2,ih]
def Jm (x y z:Int):Prop:=(x<=0->y<=0->z<=0)/\(x=0->y=0->z=0)/\(x<0->y<=0->z<0)/\(x<=0->y<0->z<0)
theorem Jm.or {x y z:Int} {xs ys zs:List Int} (h:Jm x y z) (h':Jm (dH xs) (dH ys) (dH zs)):Jm (dH (x::xs)) (dH (y::ys)) (dH (z::zs)):=by
 obtain⟨a1,a2,a3,a4⟩:=h
 obtain⟨b1,b2,b3,b4⟩:=h'
 simp only[dH]
 refine⟨?_,?_,?_,?_⟩<;>(repeat' split)<;>omega
theorem Jm.z (a b c:Int):Jm (wX a b) (wX b c) (wX a c):=by
 unfold Jm wX
 refine⟨?_,?_,?_,?_⟩<;>(repeat' split)<;>omega
theorem Jm.l (a b c:List Int):Jm (fL a b) (fL b c) (fL a c):=by
 have tr:=F7.trans a b c
 have e1:fL a b=0->fL a c=fL b c:=fun h=>by rw[rP h]
 have e2:fL b c=0->fL a c=fL a b:=fun h=>by rw[rP h]
 have e3:fL a c=0->fL b c=-fL a b:=fun h=>by rw[rP h,<-F9]
 refine⟨tr,?_,?_,?_⟩<;>omega
end Go.Proofs.YtekmminpfhacpaaGreatDoor
