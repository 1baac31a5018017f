import Derived.Test.YtekmminpfhacpaaGreatDoorTab
set_option linter.unusedVariables false
set_option linter.unusedSimpArgs false
namespace Go.Proofs.YtekmminpfhacpaaGreatDoor
def T (n:Nat):List AV:=List.replicate n .top
def xB (l:List Int):List AV:=[.sl 0 ao l]
def bK:List Int->List Int->Int
 |[],[]=>0
 |[],_::_=>-1
 |_::_,[]=>1
 |x::xs,y::ys=>if x<y then -1 else if y<x then 1 else bK xs ys
theorem xC {xs ys:List Int} {k:Nat} (h1:k<xs.length) (h2:k<ys.length):bK (xs.drop k) (ys.drop k)=if xs.getD k 0<ys.getD k 0 then -1 else if ys.getD k 0<xs.getD k 0 then 1 else bK (xs.drop (k+1)) (ys.drop (k+1)):=by
 rw[List.drop_eq_getElem_cons h1,List.drop_eq_getElem_cons h2]
 simp[bK,List.getD,h1,h2]
theorem rb {xs ys:List Int} {k:Nat} (h1:¬k<xs.length) (h2:k<ys.length):bK (xs.drop k) (ys.drop k)=-1:=by
 rw[List.drop_eq_nil_of_le (by omega),List.drop_eq_getElem_cons h2];rfl
theorem rc {xs ys:List Int} {k:Nat} (h1:k<xs.length) (h2:¬k<ys.length):bK (xs.drop k) (ys.drop k)=1:=by
 rw[(List.drop_eq_nil_of_le (by omega):ys.drop k=[]),List.drop_eq_getElem_cons h1];rfl
theorem re {xs ys:List Int} {k:Nat} (h1:¬k<xs.length) (h2:¬k<ys.length):bK (xs.drop k) (ys.drop k)=0:=by
 rw[List.drop_eq_nil_of_le (by omega),(List.drop_eq_nil_of_le (by omega):ys.drop k=[])];rfl
def iP (x y:Int):Int:=if x<y then -1 else if y<x then 1 else 0
theorem EP {xs ys:List Int} {k:Nat} (h1:k<xs.length) (h2:k<ys.length):bK (xs.drop k) (ys.drop k)=if iP (xs.getD k 0) (ys.getD k 0)≠0 then iP (xs.getD k 0) (ys.getD k 0) else bK (xs.drop (k+1)) (ys.drop (k+1)):=by
 rw[xC h1 h2]
 unfold iP
 by_cases a:xs.getD k 0<ys.getD k 0
 ·rw[if_pos a,if_pos a,if_pos (by decide)]
 ·by_cases b:ys.getD k 0<xs.getD k 0
  ·rw[if_neg a,if_pos b,if_neg a,if_pos b,if_pos (by decide)]
  ·rw[if_neg a,if_neg b,if_neg a,if_neg b,if_neg (by decide)]
theorem ah {a b:Int} (h:a=b):AV.int .i64 a= .int .i64 b:=by rw[h]
set_option maxRecDepth 10000
theorem tb (x:Int):ab Tryz.prog 247 [.int .i64 x] (fun u=>u= .bool false):=by
 refine ab.intro ac ae Tryz.func247 rfl (by decide) ?_;(conv=>whnf)
 repeat' first|(refine at_ ?_;conv=>whnf)|(refine ag (fun _=>?_) (fun _=>?_)<;>conv=>whnf)
 exact⟨rfl,rfl⟩
theorem iQ (x y:Int):ab Tryz.prog 167 [.int .i64 x, .int .i64 y] (fun u=>u= .int .i64 (iP x y)):=by
 refine ab.intro ac ae Tryz.func167 rfl (by decide) ?_;(conv=>whnf)
 (refine oP (tb x) ?_;conv=>whnf)
 (refine oP (tb y) ?_;conv=>whnf)
 repeat' first|(refine at_ ?_;conv=>whnf)|(refine ag (fun _=>?_) (fun _=>?_)<;>conv=>whnf)
 all_goals
  refine⟨ah ?_,rfl⟩
  unfold iP
  simp[*]
theorem jS (xs ys:List Int) (hx:xs.length<=4611686018427387904):ab Tryz.prog 166 [.sl 0 ao xs, .sl 0 ao ys] (fun u=>u= .int .i64 (bK xs ys)):=by
 refine ab.intro ac ae Tryz.func166 rfl (by decide) ?_;(conv=>whnf)
 refine aF.loop (fun k:Nat=>k<=xs.length/\k<=ys.length/\bK xs ys=bK (xs.drop k) (ys.drop k)) (fun k=>((.sl 0 ao xs)::(.sl 0 ao ys):: .top:: .top:: .top:: .top:: .top:: .top:: .top::(.sl 0 ao xs)::(.int .i64 (xs.length:Int))::(.int .i64 (k:Int))::T 24)) (fun _=>aj.ofL []) (fun k=>xs.length-k) 0 ⟨by omega,by omega,by simp⟩ (aR.by_ [] [] 400 rfl trivial aa) ?_
 rintro k ⟨hk1,hk2,hk3⟩
 refine fv ac ae _ _ _ _ ?_
 conv=>whnf
 refine ag (fun h1=>?_) (fun h1=>?_)<;>conv=>whnf
 ·by_cases h2:k<ys.length
  ·rw[EP (by omega) h2] at hk3
   repeat' first|(refine at_ ?_;conv=>whnf)|(refine ag (fun _=>?_) (fun _=>?_)<;>conv=>whnf)
   (refine oP (iQ _ _) ?_;conv=>whnf)
   repeat' first|(refine at_ ?_;conv=>whnf)|(refine ag (fun _=>?_) (fun _=>?_)<;>conv=>whnf)
   ·rename_i h
    exact⟨ah (by rw[hk3,if_pos (by simpa using h)];rfl),rfl⟩
   ·rename_i h
    refine⟨k+1,(aR.by_ [] [] 400 rfl trivial aa),⟨by omega,by omega,?_⟩,Nat.sub_lt_sub_left (by omega) (by omega)⟩
    rw[hk3,if_neg (by simpa using h)]
  ·rw[rc (by omega) (by omega)] at hk3
   repeat' first|(refine at_ ?_;conv=>whnf)|(refine ag (fun _=>?_) (fun _=>?_)<;>conv=>whnf)
   exact⟨ah hk3.symm,rfl⟩
 ·by_cases h2:k<ys.length
  ·rw[rb (by omega) h2] at hk3
   repeat' first|(refine at_ ?_;conv=>whnf)|(refine ag (fun _=>?_) (fun _=>?_)<;>conv=>whnf)
   exact⟨ah hk3.symm,rfl⟩
  ·rw[re (by omega) h2] at hk3
   repeat' first|(refine at_ ?_;conv=>whnf)|(refine ag (fun _=>?_) (fun _=>?_)<;>conv=>whnf)
   exact⟨ah hk3.symm,rfl⟩
theorem D9 {α:Type} {d:α} {enc:α->List AV} {l l':List α} (h:l=l'):AV.sl d enc l=AV.sl d enc l':=by rw[h]
structure IR (α:Type) (c:α->α->Int):Prop where
 anti:∀a b,c a b<0->c b a>0
 anti':∀a b,c a b>0->c b a<0
 trans:∀a b d,c a b<=0->c b d<=0->c a d<=0
theorem zu:IR (List Int) bK where
 anti:=by
  intro a
  induction a with
  |nil=>intro b h;cases b<;>simp_all [bK]
  |cons x xs ih=>
   intro b h
   cases b with
   |nil=>simp[bK] at h
   |cons y ys=>
    simp only[bK] at*
    by_cases a:x<y
    ·simp[a,show¬y<x from by omega]
    ·by_cases b:y<x
     ·simp[a,b] at h
     ·simp only[a,b,if_false] at*;exact ih ys h
 anti':=by
  intro a
  induction a with
  |nil=>intro b h;cases b<;>simp_all [bK]
  |cons x xs ih=>
   intro b h
   cases b with
   |nil=>simp[bK]
   |cons y ys=>
    simp only[bK] at*
    by_cases a:x<y
    ·simp[a] at h
    ·by_cases b:y<x
     ·simp[b]
     ·simp only[a,b,if_false] at*;exact ih ys h
 trans:=by
  intro a
  induction a with
  |nil=>intro b d _ h2;cases d<;>simp[bK]
  |cons x xs ih=>
   intro b d h1 h2
   cases b with
   |nil=>simp[bK] at h1
   |cons y ys=>
    cases d with
    |nil=>simp[bK] at h2
    |cons z zs=>
     simp only[bK] at*
     by_cases a1:x<y
     ·by_cases b1:y<z
      ·simp[show x<z from by omega]
      ·by_cases b2:z<y
       ·simp[b1,b2] at h2
       ·simp[show x<z from by omega]
     ·by_cases a2:y<x
      ·simp[a1,a2] at h1
      ·by_cases b1:y<z
       ·simp[show x<z from by omega]
       ·by_cases b2:z<y
        ·simp[b1,b2] at h2
        ·have e1:¬x<z:=by omega
         have e2:¬z<x:=by omega
         simp only[a1,a2,b1,b2,e1,e2,if_false] at*
         exact ih ys zs h1 h2
theorem gK:∀{a b:List Int},bK a b=0->a=b
 |[],[],_=>rfl
 |[],_::_,h=>by simp[bK] at h
 |_::_,[],h=>by simp[bK] at h
 |x::xs,y::ys,h=>by
  simp only[bK] at h
  by_cases a:x<y
  ·simp[a] at h
  ·by_cases b:y<x
   ·simp[a,b] at h
   ·simp only[a,b,if_false] at h
    rw[gK h,show x=y from by omega]
theorem qa:∀(a:List Int),bK a a=0
 |[]=>rfl
 |x::xs=>by simp[bK,qa xs]
set_option maxRecDepth 10000
def zw (l:List (List Int)):bP:=.row 24 [] xB l
set_option maxRecDepth 10000
set_option maxRecDepth 10000
def IU (l:List (List Int)):Prop:=l.Pairwise fun a b=>bK a b<0
set_option maxRecDepth 10000
instance (l:List (List Int)):Decidable (IU l):=inferInstanceAs (Decidable (List.Pairwise _ _))
set_option maxRecDepth 10000
set_option maxHeartbeats 2000000
theorem ab.sub {P:Program} {f:FuncId} {args:List AV} {R R':AV->Prop} (h:ab P f args R) (hr:∀u,R u->∃u',R' u'/\jn [] 20 u u'/\cg 5 u'=true):ab P f args R':=by
 rw[dY] at*
 refine⟨h.1,fun S F vs w h0 h1 h2 h3 hv=>(h.2 S F vs w h0 h1 h2 h3 hv).mono ?_⟩
 rintro e w' ⟨v,u,S',a,b,c,d,e',f',g,hw⟩
 obtain⟨u',hu',hav,hp⟩:=hr u b
 have:=(iG (S:=S') (ρ:=fun _=>none) (lm:=[]) 20).1 u u' v hav (.p g)
 exact⟨v,u',S',a,hu',c,d,e',f',kX 5 hp this,hw⟩
set_option maxRecDepth 10000
set_option maxHeartbeats 2000000
end Go.Proofs.YtekmminpfhacpaaGreatDoor
set_option maxRecDepth 100000
namespace Go.Proofs.YtekmminpfhacpaaGreatDoor
set_option maxRecDepth 100000
def ky:Int->List Int->Bool
 |n,[]=>decide (n=0)
 |n,x::xs=>if n=0 then false else if x≠0/\x≠2 then false else ky (n+(x-1)) xs
theorem m6 {l:List Int} {i:Nat} (h:i<l.length):l.drop i=l.getD i 0::l.drop (i+1):=by
 rw[List.drop_eq_getElem_cons h,gD,gL h]
 rfl
theorem zx (l:List Int) (hl:l.length<=1000):ab Tryz.prog 233 [.sl 0 ao l] (fun u=>u= .bool (ky 1 l)):=by
 refine ab.intro ac ae Tryz.func233 rfl (by decide) ?_;(conv=>whnf)
 refine aF.loop (fun x:Nat×Int=>x.1<=l.length/\-1-x.1<=x.2/\x.2<=1+x.1/\ky 1 l=ky x.2 (l.drop x.1)) (fun x=>((.sl 0 ao l):: .top:: .top::(.int .i64 x.2)::(.int .i64 (x.1:Int))::T 31)) (fun _=>aj.ofL []) (fun x=>l.length-x.1) (0,1) (by simp) (aR.by_ [] [] 400 rfl trivial aa) ?_
 rintro⟨i,n⟩ ⟨hi,h1,h2,hs⟩
 dsimp only at hi h1 h2 hs
 refine fv ac ae _ _ _ _ ?_
 conv=>whnf
 repeat' first|(refine at_ ?_;conv=>whnf)|(refine ag (fun _=>?_) (fun _=>?_)<;>conv=>whnf)
 ·rename_i hlt h0
  dsimp only at hlt h0
  rw[hs,m6 (by omega),ky,if_pos h0]
  exact⟨rfl,rfl⟩
 ·rename_i hlt h0 ha hb
  dsimp only at hlt h0
  rw[tN] at ha hb
  rw[hs,m6 (by omega),ky,if_neg h0,if_pos ⟨ha,hb⟩]
  exact⟨rfl,rfl⟩
 ·rename_i hlt h0 ha hb
  dsimp only at hlt h0
  rw[tN] at ha hb
  have hb':l.getD i 0=2:=by simpa using hb
  refine⟨(i+1,n+(l.getD i 0-1)),(aR.by_ [] [] 400 rfl trivial aa),⟨by omega,by dsimp only;omega,by dsimp only;omega,?_⟩,Nat.sub_lt_sub_left (by dsimp only;omega) (by dsimp only;omega)⟩
  dsimp only
  rw[hs,m6 (by omega),ky,if_neg h0,if_neg (by rw[hb'];decide)]
 ·rename_i hlt h0 ha
  dsimp only at hlt h0
  rw[tN] at ha
  have hb':l.getD i 0=0:=by simpa using ha
  refine⟨(i+1,n+(l.getD i 0-1)),(aR.by_ [] [] 400 rfl trivial aa),⟨by omega,by dsimp only;omega,by dsimp only;omega,?_⟩,Nat.sub_lt_sub_left (by dsimp only;omega) (by dsimp only;omega)⟩
  dsimp only
  rw[hs,m6 (by omega),ky,if_neg h0,if_neg (by rw[hb'];decide)]
 ·rename_i hlt h0
  dsimp only at hlt h0
  rw[hs,List.drop_eq_nil_of_le (by omega),ky,decide_eq_true h0]
  exact⟨rfl,rfl⟩
 ·rename_i hlt h0
  dsimp only at hlt h0
  rw[hs,List.drop_eq_nil_of_le (by omega),ky,decide_eq_false h0]
  exact⟨rfl,rfl⟩
end Go.Proofs.YtekmminpfhacpaaGreatDoor
