import Derived.Test.YtekmminpfhacpaaGreatDoorTab
set_option linter.unusedVariables false
set_option linter.unusedSimpArgs false
namespace Go.Proofs.YtekmminpfhacpaaGreatDoor
def T (n:Nat):List AV:=List.replicate n .top
def B3 (l:List Int):List AV:=[.sl 0 ao l]
def bZ:List Int->List Int->Int
 |[],[]=>0
 |[],_::_=>-1
 |_::_,[]=>1
 |x::xs,y::ys=>if x<y then -1 else if y<x then 1 else bZ xs ys
theorem B4 {xs ys:List Int} {k:Nat} (h1:k<xs.length) (h2:k<ys.length):bZ (xs.drop k) (ys.drop k)=if xs.getD k 0<ys.getD k 0 then -1 else if ys.getD k 0<xs.getD k 0 then 1 else bZ (xs.drop (k+1)) (ys.drop (k+1)):=by
 rw[List.drop_eq_getElem_cons h1,List.drop_eq_getElem_cons h2]
 simp[bZ,List.getD,h1,h2]
theorem un {xs ys:List Int} {k:Nat} (h1:¬k<xs.length) (h2:k<ys.length):bZ (xs.drop k) (ys.drop k)=-1:=by
 rw[List.drop_eq_nil_of_le (by omega),List.drop_eq_getElem_cons h2];rfl
theorem uo {xs ys:List Int} {k:Nat} (h1:k<xs.length) (h2:¬k<ys.length):bZ (xs.drop k) (ys.drop k)=1:=by
 rw[(List.drop_eq_nil_of_le (by omega):ys.drop k=[]),List.drop_eq_getElem_cons h1];rfl
theorem uq {xs ys:List Int} {k:Nat} (h1:¬k<xs.length) (h2:¬k<ys.length):bZ (xs.drop k) (ys.drop k)=0:=by
 rw[List.drop_eq_nil_of_le (by omega),(List.drop_eq_nil_of_le (by omega):ys.drop k=[])];rfl
def j8 (x y:Int):Int:=if x<y then -1 else if y<x then 1 else 0
theorem Kq {xs ys:List Int} {k:Nat} (h1:k<xs.length) (h2:k<ys.length):bZ (xs.drop k) (ys.drop k)=if j8 (xs.getD k 0) (ys.getD k 0)≠0 then j8 (xs.getD k 0) (ys.getD k 0) else bZ (xs.drop (k+1)) (ys.drop (k+1)):=by
 rw[B4 h1 h2]
 unfold j8
 by_cases a:xs.getD k 0<ys.getD k 0
 ·rw[if_pos a,if_pos a,if_pos (by decide)]
 ·by_cases b:ys.getD k 0<xs.getD k 0
  ·rw[if_neg a,if_pos b,if_neg a,if_pos b,if_pos (by decide)]
  ·rw[if_neg a,if_neg b,if_neg a,if_neg b,if_neg (by decide)]
theorem ac {a b:Int} (h:a=b):AV.int .i64 a= .int .i64 b:=by rw[h]
set_option maxRecDepth 10000
theorem wO (x:Int):ab Tryz.prog 247 [.int .i64 x] (fun u=>u= .bool false):=by
 refine ab.intro ae ag Tryz.func247 rfl (by decide) ?_;(conv=>whnf)
 repeat' first|(refine at_ ?_;conv=>whnf)|(refine ah (fun _=>?_) (fun _=>?_)<;>conv=>whnf)
 exact⟨rfl,rfl⟩
theorem j9 (x y:Int):ab Tryz.prog 167 [.int .i64 x, .int .i64 y] (fun u=>u= .int .i64 (j8 x y)):=by
 refine ab.intro ae ag Tryz.func167 rfl (by decide) ?_;(conv=>whnf)
 (refine oP (wO x) ?_;conv=>whnf)
 (refine oP (wO y) ?_;conv=>whnf)
 repeat' first|(refine at_ ?_;conv=>whnf)|(refine ah (fun _=>?_) (fun _=>?_)<;>conv=>whnf)
 all_goals
  refine⟨ac ?_,rfl⟩
  unfold j8
  simp[*]
theorem lS (xs ys:List Int) (hx:xs.length<=4611686018427387904):ab Tryz.prog 166 [.sl 0 ao xs, .sl 0 ao ys] (fun u=>u= .int .i64 (bZ xs ys)):=by
 refine ab.intro ae ag Tryz.func166 rfl (by decide) ?_;(conv=>whnf)
 refine aQ.loop (fun k:Nat=>k<=xs.length/\k<=ys.length/\bZ xs ys=bZ (xs.drop k) (ys.drop k)) (fun k=>((.sl 0 ao xs)::(.sl 0 ao ys):: .top:: .top:: .top:: .top:: .top:: .top:: .top::(.sl 0 ao xs)::(.int .i64 (xs.length:Int))::(.int .i64 (k:Int))::T 24)) (fun _=>aj.ofL []) (fun k=>xs.length-k) 0 ⟨by omega,by omega,by simp⟩ (bn.by_ [] [] 400 rfl trivial aa) ?_
 rintro k ⟨hk1,hk2,hk3⟩
 refine jr ae ag _ _ _ _ ?_
 conv=>whnf
 refine ah (fun h1=>?_) (fun h1=>?_)<;>conv=>whnf
 ·by_cases h2:k<ys.length
  ·rw[Kq (by omega) h2] at hk3
   repeat' first|(refine at_ ?_;conv=>whnf)|(refine ah (fun _=>?_) (fun _=>?_)<;>conv=>whnf)
   (refine oP (j9 _ _) ?_;conv=>whnf)
   repeat' first|(refine at_ ?_;conv=>whnf)|(refine ah (fun _=>?_) (fun _=>?_)<;>conv=>whnf)
   ·rename_i h
    exact⟨ac (by rw[hk3,if_pos (by simpa using h)];rfl),rfl⟩
   ·rename_i h
    refine⟨k+1,(bn.by_ [] [] 400 rfl trivial aa),⟨by omega,by omega,?_⟩,Nat.sub_lt_sub_left (by omega) (by omega)⟩
    rw[hk3,if_neg (by simpa using h)]
  ·rw[uo (by omega) (by omega)] at hk3
   repeat' first|(refine at_ ?_;conv=>whnf)|(refine ah (fun _=>?_) (fun _=>?_)<;>conv=>whnf)
   exact⟨ac hk3.symm,rfl⟩
 ·by_cases h2:k<ys.length
  ·rw[un (by omega) h2] at hk3
   repeat' first|(refine at_ ?_;conv=>whnf)|(refine ah (fun _=>?_) (fun _=>?_)<;>conv=>whnf)
   exact⟨ac hk3.symm,rfl⟩
  ·rw[uq (by omega) h2] at hk3
   repeat' first|(refine at_ ?_;conv=>whnf)|(refine ah (fun _=>?_) (fun _=>?_)<;>conv=>whnf)
   exact⟨ac hk3.symm,rfl⟩
theorem JD {α:Type} {d:α} {enc:α->List AV} {l l':List α} (h:l=l'):AV.sl d enc l=AV.sl d enc l':=by rw[h]
structure OK (α:Type) (c:α->α->Int):Prop where
 anti:∀a b,c a b<0->c b a>0
 anti':∀a b,c a b>0->c b a<0
 trans:∀a b d,c a b<=0->c b d<=0->c a d<=0
theorem D3:OK (List Int) bZ where
 anti:=by
  intro a
  induction a with
  |nil=>intro b h;cases b<;>simp_all [bZ]
  |cons x xs ih=>
   intro b h
   cases b with
   |nil=>simp[bZ] at h
   |cons y ys=>
    simp only[bZ] at*
    by_cases a:x<y
    ·simp[a,show¬y<x from by omega]
    ·by_cases b:y<x
     ·simp[a,b] at h
     ·simp only[a,b,if_false] at*;exact ih ys h
 anti':=by
  intro a
  induction a with
  |nil=>intro b h;cases b<;>simp_all [bZ]
  |cons x xs ih=>
   intro b h
   cases b with
   |nil=>simp[bZ]
   |cons y ys=>
    simp only[bZ] at*
    by_cases a:x<y
    ·simp[a] at h
    ·by_cases b:y<x
     ·simp[b]
     ·simp only[a,b,if_false] at*;exact ih ys h
 trans:=by
  intro a
  induction a with
  |nil=>intro b d _ h2;cases d<;>simp[bZ]
  |cons x xs ih=>
   intro b d h1 h2
   cases b with
   |nil=>simp[bZ] at h1
   |cons y ys=>
    cases d with
    |nil=>simp[bZ] at h2
    |cons z zs=>
     simp only[bZ] at*
     by_cases a1:x<y
     ·by_cases b1:y<z
      ·simp[show x<z from by omega]
      ·by_cases b2:z<y
       ·simp[b1,b2] at h2
       ·simp[show x<z from by omega]
     ·by_cases a2:y<x
      ·simp[a1,a2] at h1
      ·by_cases b1:y<z
       ·simp[show x<z from by omega]
       ·by_cases b2:z<y
        ·simp[b1,b2] at h2
        ·have e1:¬x<z:=by omega
         have e2:¬z<x:=by omega
         simp only[a1,a2,b1,b2,e1,e2,if_false] at*
         exact ih ys zs h1 h2
theorem i4:∀{a b:List Int},bZ a b=0->a=b
 |[],[],_=>rfl
 |[],_::_,h=>by simp[bZ] at h
 |_::_,[],h=>by simp[bZ] at h
 |x::xs,y::ys,h=>by
  simp only[bZ] at h
  by_cases a:x<y
  ·simp[a] at h
  ·by_cases b:y<x
   ·simp[a,b] at h
   ·simp only[a,b,if_false] at h
    rw[i4 h,show x=y from by omega]
theorem te:∀(a:List Int),bZ a a=0
 |[]=>rfl
 |x::xs=>by simp[bZ,te xs]
set_option maxRecDepth 10000
def D4 (l:List (List Int)):cp:=.row 24 [] B3 l
set_option maxRecDepth 10000
set_option maxRecDepth 10000
def OL (l:List (List Int)):Prop:=l.Pairwise fun a b=>bZ a b<0
set_option maxRecDepth 10000
instance (l:List (List Int)):Decidable (OL l):=inferInstanceAs (Decidable (List.Pairwise _ _))
set_option maxRecDepth 10000
set_option maxHeartbeats 2000000
theorem ab.sub {P:Program} {f:FuncId} {args:List AV} {R R':AV->Prop} (h:ab P f args R) (hr:∀u,R u->∃u',R' u'/\kQ [] 20 u u'/\cE 5 u'=true):ab P f args R':=by
 rw[dv] at*
 refine⟨h.1,fun S F vs w h0 h1 h2 h3 hv=>(h.2 S F vs w h0 h1 h2 h3 hv).mono ?_⟩
 rintro e w' ⟨v,u,S',a,b,c,d,e',f',g,hw⟩
 obtain⟨u',hu',hav,hp⟩:=hr u b
 have:=(jT (S:=S') (ρ:=fun _=>none) (lm:=[]) 20).1 u u' v hav (.p g)
 exact⟨v,u',S',a,hu',c,d,e',f',kZ 5 hp this,hw⟩
set_option maxRecDepth 10000
set_option maxHeartbeats 2000000
end Go.Proofs.YtekmminpfhacpaaGreatDoor
set_option maxRecDepth 100000
namespace Go.Proofs.YtekmminpfhacpaaGreatDoor
set_option maxRecDepth 100000
end Go.Proofs.YtekmminpfhacpaaGreatDoor
