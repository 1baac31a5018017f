import Derived.Test.YtekmminpfhacpaaGreatDoorTab
set_option linter.unusedVariables false
set_option linter.unusedSimpArgs false
namespace Go.Proofs.YtekmminpfhacpaaGreatDoor
def T (n:Nat):List AV:=List.replicate n .top
def Et (l:List Int):List AV:=[.sl 0 ak l]
def fo:List Int->List Int->Int
 |[],[]=>0
 |[],_::_=>-1
 |_::_,[]=>1
 |x::xs,y::ys=>if x<y then -1 else if y<x then 1 else fo xs ys
def wK (x y:Int):Int:=if x<y then -1 else if y<x then 1 else 0
theorem aq {a b:Int} (h:a=b):AV.int .i64 a= .int .i64 b:=by rw[h]
set_option maxRecDepth 10000
theorem yR (x:Int):ab Tryz.prog 247 [.int .i64 x] (fun u=>u= .bool false):=by
 refine ab.intro ae ag Tryz.func247 rfl (by decide) ?_;(conv=>whnf)
 repeat' first|(refine at_ ?_;conv=>whnf)|(refine ai (fun _=>?_) (fun _=>?_)<;>conv=>whnf)
 exact⟨rfl,rfl⟩
theorem AZ (x y:Int):ab Tryz.prog 167 [.int .i64 x, .int .i64 y] (fun u=>u= .int .i64 (wK x y)):=by
 refine ab.intro ae ag Tryz.func167 rfl (by decide) ?_;(conv=>whnf)
 (refine oP (yR x) ?_;conv=>whnf)
 (refine oP (yR y) ?_;conv=>whnf)
 repeat' first|(refine at_ ?_;conv=>whnf)|(refine ai (fun _=>?_) (fun _=>?_)<;>conv=>whnf)
 all_goals
  refine⟨aq ?_,rfl⟩
  unfold wK
  simp[*]
theorem Mq {α:Type} {d:α} {enc:α->List AV} {l l':List α} (h:l=l'):AV.sl d enc l=AV.sl d enc l':=by rw[h]
structure SQ (α:Type) (c:α->α->Int):Prop where
 anti:∀a b,c a b<0->c b a>0
 anti':∀a b,c a b>0->c b a<0
 trans:∀a b d,c a b<=0->c b d<=0->c a d<=0
theorem Gh:SQ (List Int) fo where
 anti:=by
  intro a
  induction a with
  |nil=>intro b h;cases b<;>simp_all [fo]
  |cons x xs ih=>
   intro b h
   cases b with
   |nil=>simp[fo] at h
   |cons y ys=>
    simp only[fo] at*
    by_cases a:x<y
    ·simp[a,show¬y<x from by omega]
    ·by_cases b:y<x
     ·simp[a,b] at h
     ·simp only[a,b,if_false] at*;exact ih ys h
 anti':=by
  intro a
  induction a with
  |nil=>intro b h;cases b<;>simp_all [fo]
  |cons x xs ih=>
   intro b h
   cases b with
   |nil=>simp[fo]
   |cons y ys=>
    simp only[fo] at*
    by_cases a:x<y
    ·simp[a] at h
    ·by_cases b:y<x
     ·simp[b]
     ·simp only[a,b,if_false] at*;exact ih ys h
 trans:=by
  intro a
  induction a with
  |nil=>intro b d _ h2;cases d<;>simp[fo]
  |cons x xs ih=>
   intro b d h1 h2
   cases b with
   |nil=>simp[fo] at h1
   |cons y ys=>
    cases d with
    |nil=>simp[fo] at h2
    |cons z zs=>
     simp only[fo] at*
     by_cases a1:x<y
     ·by_cases b1:y<z
      ·simp[show x<z from by omega]
      ·by_cases b2:z<y
       ·simp[b1,b2] at h2
       ·simp[show x<z from by omega]
     ·by_cases a2:y<x
      ·simp[a1,a2] at h1
      ·by_cases b1:y<z
       ·simp[show x<z from by omega]
       ·by_cases b2:z<y
        ·simp[b1,b2] at h2
        ·have e1:¬x<z:=by omega
         have e2:¬z<x:=by omega
         simp only[a1,a2,b1,b2,e1,e2,if_false] at*
         exact ih ys zs h1 h2
theorem rR:∀{a b:List Int},fo a b=0->a=b
 |[],[],_=>rfl
 |[],_::_,h=>by simp[fo] at h
 |_::_,[],h=>by simp[fo] at h
 |x::xs,y::ys,h=>by
  simp only[fo] at h
  by_cases a:x<y
  ·simp[a] at h
  ·by_cases b:y<x
   ·simp[a,b] at h
   ·simp only[a,b,if_false] at h
    rw[rR h,show x=y from by omega]
set_option maxRecDepth 10000
def Gi (l:List (List Int)):aU:=.row 24 [] Et l
set_option maxRecDepth 10000
set_option maxRecDepth 10000
def SR (l:List (List Int)):Prop:=l.Pairwise fun a b=>fo a b<0
set_option maxRecDepth 10000
instance (l:List (List Int)):Decidable (SR l):=inferInstanceAs (Decidable (List.Pairwise _ _))
set_option maxRecDepth 10000
set_option maxHeartbeats 2000000
theorem ab.sub {P:Program} {f:FuncId} {args:List AV} {R R':AV->Prop} (h:ab P f args R) (hr:∀u,R u->∃u',R' u'/\lU [] 20 u u'/\cU 5 u'=true):ab P f args R':=by
 rw[cZ] at*
 refine⟨h.1,fun S F vs w h0 h1 h2 h3 hv=>(h.2 S F vs w h0 h1 h2 h3 hv).mono ?_⟩
 rintro e w' ⟨v,u,S',a,b,c,d,e',f',g,hw⟩
 obtain⟨u',hu',hav,hp⟩:=hr u b
 have:=(eE (S:=S') (ρ:=fun _=>none) (lm:=[]) 20).1 u u' v hav (.p g)
 exact⟨v,u',S',a,hu',c,d,e',f',ke 5 hp this,hw⟩
set_option maxRecDepth 10000
set_option maxHeartbeats 2000000
end Go.Proofs.YtekmminpfhacpaaGreatDoor
set_option maxRecDepth 100000
namespace Go.Proofs.YtekmminpfhacpaaGreatDoor
set_option maxRecDepth 100000
end Go.Proofs.YtekmminpfhacpaaGreatDoor
