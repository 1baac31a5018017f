import Derived.Test.YtekmminpfhacpaaGreatDoorTab
set_option linter.unusedVariables false
set_option linter.unusedSimpArgs false
namespace Go.Proofs.YtekmminpfhacpaaGreatDoor
def T (n:Nat):List AV:=List.replicate n .top
def A7 (l:List Int):List AV:=[.sl 0 al l]
def fL:List Int->List Int->Int
 |[],[]=>0
 |[],_::_=>-1
 |_::_,[]=>1
 |x::xs,y::ys=>if x<y then -1 else if y<x then 1 else fL xs ys
def wX (x y:Int):Int:=if x<y then -1 else if y<x then 1 else 0
theorem ao {a b:Int} (h:a=b):AV.int .i64 a= .int .i64 b:=by rw[h]
set_option maxRecDepth 10000
theorem yT (x:Int):ah Tryz.prog 247 [.int .i64 x] (fun u=>u= .bool false):=by
 refine ah.intro ab ac Tryz.func247 rfl (by decide) ?_;(conv=>whnf)
 repeat' first|(refine at_ ?_;conv=>whnf)|(refine ae (fun _=>?_) (fun _=>?_)<;>conv=>whnf)
 exact⟨rfl,rfl⟩
theorem A8 (x y:Int):ah Tryz.prog 167 [.int .i64 x, .int .i64 y] (fun u=>u= .int .i64 (wX x y)):=by
 refine ah.intro ab ac Tryz.func167 rfl (by decide) ?_;(conv=>whnf)
 (refine oP (yT x) ?_;conv=>whnf)
 (refine oP (yT y) ?_;conv=>whnf)
 repeat' first|(refine at_ ?_;conv=>whnf)|(refine ae (fun _=>?_) (fun _=>?_)<;>conv=>whnf)
 all_goals
  refine⟨ao ?_,rfl⟩
  unfold wX
  simp[*]
theorem NY {α:Type} {d:α} {enc:α->List AV} {l l':List α} (h:l=l'):AV.sl d enc l=AV.sl d enc l':=by rw[h]
structure QO (α:Type) (c:α->α->Int):Prop where
 anti:∀a b,c a b<0->c b a>0
 anti':∀a b,c a b>0->c b a<0
 trans:∀a b d,c a b<=0->c b d<=0->c a d<=0
theorem F7:QO (List Int) fL where
 anti:=by
  intro a
  induction a with
  |nil=>intro b h;cases b<;>simp_all [fL]
  |cons x xs ih=>
   intro b h
   cases b with
   |nil=>simp[fL] at h
   |cons y ys=>
    simp only[fL] at*
    by_cases a:x<y
    ·simp[a,show¬y<x from by omega]
    ·by_cases b:y<x
     ·simp[a,b] at h
     ·simp only[a,b,if_false] at*;exact ih ys h
 anti':=by
  intro a
  induction a with
  |nil=>intro b h;cases b<;>simp_all [fL]
  |cons x xs ih=>
   intro b h
   cases b with
   |nil=>simp[fL]
   |cons y ys=>
    simp only[fL] at*
    by_cases a:x<y
    ·simp[a] at h
    ·by_cases b:y<x
     ·simp[b]
     ·simp only[a,b,if_false] at*;exact ih ys h
 trans:=by
  intro a
  induction a with
  |nil=>intro b d _ h2;cases d<;>simp[fL]
  |cons x xs ih=>
   intro b d h1 h2
   cases b with
   |nil=>simp[fL] at h1
   |cons y ys=>
    cases d with
    |nil=>simp[fL] at h2
    |cons z zs=>
     simp only[fL] at*
     by_cases a1:x<y
     ·by_cases b1:y<z
      ·simp[show x<z from by omega]
      ·by_cases b2:z<y
       ·simp[b1,b2] at h2
       ·simp[show x<z from by omega]
     ·by_cases a2:y<x
      ·simp[a1,a2] at h1
      ·by_cases b1:y<z
       ·simp[show x<z from by omega]
       ·by_cases b2:z<y
        ·simp[b1,b2] at h2
        ·have e1:¬x<z:=by omega
         have e2:¬z<x:=by omega
         simp only[a1,a2,b1,b2,e1,e2,if_false] at*
         exact ih ys zs h1 h2
theorem rP:∀{a b:List Int},fL a b=0->a=b
 |[],[],_=>rfl
 |[],_::_,h=>by simp[fL] at h
 |_::_,[],h=>by simp[fL] at h
 |x::xs,y::ys,h=>by
  simp only[fL] at h
  by_cases a:x<y
  ·simp[a] at h
  ·by_cases b:y<x
   ·simp[a,b] at h
   ·simp only[a,b,if_false] at h
    rw[rP h,show x=y from by omega]
set_option maxRecDepth 10000
def ph (l:List (List Int)):bf:=.row 24 [] A7 l
set_option maxRecDepth 10000
set_option maxRecDepth 10000
def QP (l:List (List Int)):Prop:=l.Pairwise fun a b=>fL a b<0
set_option maxRecDepth 10000
instance (l:List (List Int)):Decidable (QP l):=inferInstanceAs (Decidable (List.Pairwise _ _))
set_option maxRecDepth 10000
set_option maxHeartbeats 2000000
theorem ah.sub {P:Program} {f:FuncId} {args:List AV} {R R':AV->Prop} (h:ah P f args R) (hr:∀u,R u->∃u',R' u'/\oW [] 20 u u'/\dl 5 u'=true):ah P f args R':=by
 rw[dM] at*
 refine⟨h.1,fun S F vs w h0 h1 h2 h3 hv=>(h.2 S F vs w h0 h1 h2 h3 hv).mono ?_⟩
 rintro e w' ⟨v,u,S',a,b,c,d,e',f',g,hw⟩
 obtain⟨u',hu',hav,hp⟩:=hr u b
 have:=(eU (S:=S') (ρ:=fun _=>none) (lm:=[]) 20).1 u u' v hav (.p g)
 exact⟨v,u',S',a,hu',c,d,e',f',me 5 hp this,hw⟩
set_option maxRecDepth 10000
set_option maxHeartbeats 2000000
end Go.Proofs.YtekmminpfhacpaaGreatDoor
set_option maxRecDepth 100000
namespace Go.Proofs.YtekmminpfhacpaaGreatDoor
set_option maxRecDepth 100000
end Go.Proofs.YtekmminpfhacpaaGreatDoor
