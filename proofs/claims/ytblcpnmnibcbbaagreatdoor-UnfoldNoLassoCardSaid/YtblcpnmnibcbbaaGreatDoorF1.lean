import Derived.Test.YtblcpnmnibcbbaaGreatDoorTab
set_option linter.unusedVariables false
set_option linter.unusedSimpArgs false
namespace Go.Proofs.YtblcpnmnibcbbaaGreatDoor
def T (n:Nat):List AV:=List.replicate n .top
def eG (l:List Int):List AV:=[.sl 0 aD l]
def bz:List Int->List Int->Int
 |[],[]=>0
 |[],_::_=>-1
 |_::_,[]=>1
 |x::xs,y::ys=>if x<y then -1 else if y<x then 1 else bz xs ys
theorem rH {xs ys:List Int} {k:Nat} (h1:k<xs.length) (h2:k<ys.length):bz (xs.drop k) (ys.drop k)=if xs.getD k 0<ys.getD k 0 then -1 else if ys.getD k 0<xs.getD k 0 then 1 else bz (xs.drop (k+1)) (ys.drop (k+1)):=by
 rw[List.drop_eq_getElem_cons h1,List.drop_eq_getElem_cons h2]
 simp[bz,List.getD,h1,h2]
theorem mh {xs ys:List Int} {k:Nat} (h1:¬k<xs.length) (h2:k<ys.length):bz (xs.drop k) (ys.drop k)=-1:=by
 rw[List.drop_eq_nil_of_le (by omega),List.drop_eq_getElem_cons h2];rfl
theorem mi {xs ys:List Int} {k:Nat} (h1:k<xs.length) (h2:¬k<ys.length):bz (xs.drop k) (ys.drop k)=1:=by
 rw[(List.drop_eq_nil_of_le (by omega):ys.drop k=[]),List.drop_eq_getElem_cons h1];rfl
theorem mj {xs ys:List Int} {k:Nat} (h1:¬k<xs.length) (h2:¬k<ys.length):bz (xs.drop k) (ys.drop k)=0:=by
 rw[List.drop_eq_nil_of_le (by omega),(List.drop_eq_nil_of_le (by omega):ys.drop k=[])];rfl
def hJ (x y:Int):Int:=if x<y then -1 else if y<x then 1 else 0
theorem FQ {xs ys:List Int} {k:Nat} (h1:k<xs.length) (h2:k<ys.length):bz (xs.drop k) (ys.drop k)=if hJ (xs.getD k 0) (ys.getD k 0)≠0 then hJ (xs.getD k 0) (ys.getD k 0) else bz (xs.drop (k+1)) (ys.drop (k+1)):=by
 rw[rH h1 h2]
 unfold hJ
 by_cases a:xs.getD k 0<ys.getD k 0
 ·rw[if_pos a,if_pos a,if_pos (by decide)]
 ·by_cases b:ys.getD k 0<xs.getD k 0
  ·rw[if_neg a,if_pos b,if_neg a,if_pos b,if_pos (by decide)]
  ·rw[if_neg a,if_neg b,if_neg a,if_neg b,if_neg (by decide)]
theorem aj {a b:Int} (h:a=b):AV.int .i64 a= .int .i64 b:=by rw[h]
theorem ox {a b:Bool} (h:a=b):AV.bool a= .bool b:=by rw[h]
set_option maxRecDepth 10000
theorem cD (xs ys:List Int) (hx:xs.length<=4611686018427387904):aa Tryz.prog 31 [.sl 0 aD xs, .sl 0 aD ys] (fun u=>u= .int .i64 (bz xs ys)):=by
 refine aa.intro ab ac Tryz.func31 rfl (by decide) ?_;(conv=>whnf)
 refine aR.loop (fun k:Nat=>k<=xs.length/\k<=ys.length/\bz xs ys=bz (xs.drop k) (ys.drop k)) (fun k=>.sl 0 aD xs:: .sl 0 aD ys:: .top:: .top:: .top:: .int .i64 (k:Int)::T 40) (fun _=>ah.ofL []) (fun k=>xs.length-k) 0 ⟨by omega,by omega,by simp⟩ (bE.by_ [] [] 100 rfl trivial ⟨rfl,rfl,rfl,trivial⟩) ?_
 rintro k ⟨hk1,hk2,hk3⟩
 refine bw ab ac _ _ _ _ ?_
 conv=>whnf
 refine ag (fun h1=>?_) (fun h1=>?_)<;>conv=>whnf
 ·refine ag (fun h2=>?_) (fun h2=>?_)<;>conv=>whnf
  ·have hd:=rH (xs:=xs) (ys:=ys) (k:=k) (by omega) (by omega)
   rw[hd] at hk3
   repeat' first|(refine at_ ?_;conv=>whnf)|(refine ag (fun _=>?_) (fun _=>?_)<;>conv=>whnf)
   ·rename_i h
    refine⟨aj ?_,rfl⟩
    rw[hk3,if_pos (by simpa using h)]
   ·rename_i h h'
    refine⟨aj ?_,rfl⟩
    rw[hk3,if_neg (by simpa using h),if_pos (by simpa using h')]
   ·rename_i h h'
    refine⟨k+1,bE.by_ [] [] 100 rfl trivial ⟨rfl,rfl,rfl,trivial⟩,⟨by omega,by omega,?_⟩,Nat.sub_lt_sub_left (by omega) (by omega)⟩
    rw[hk3,if_neg (by simpa using h),if_neg (by simpa using h')]
  ·rw[mi (by omega) (by omega)] at hk3
   repeat' first|(refine at_ ?_;conv=>whnf)|(refine ag (fun _=>?_) (fun _=>?_)<;>conv=>whnf)
   exact⟨aj hk3.symm,rfl⟩
 ·by_cases h2:k<ys.length
  ·rw[mh (by omega) h2] at hk3
   repeat' first|(refine at_ ?_;conv=>whnf)|(refine ag (fun _=>?_) (fun _=>?_)<;>conv=>whnf)
   exact⟨aj hk3.symm,rfl⟩
  ·rw[mj (by omega) h2] at hk3
   repeat' first|(refine at_ ?_;conv=>whnf)|(refine ag (fun _=>?_) (fun _=>?_)<;>conv=>whnf)
   exact⟨aj hk3.symm,rfl⟩
theorem ut (xs ys:List Int) (hx:xs.length<=4611686018427387904):aa Tryz.prog 20 [.sl 0 aD xs, .sl 0 aD ys] (fun u=>u= .bool (decide (bz xs ys=0))):=by
 refine aa.intro ab ac Tryz.func20 rfl (by decide) ?_;(conv=>whnf)
 (refine oP (cD xs ys hx) ?_;conv=>whnf)
 repeat' first|(refine at_ ?_;conv=>whnf)|(refine ag (fun _=>?_) (fun _=>?_)<;>conv=>whnf)
 ·rename_i h;exact⟨ox (by simpa using h),rfl⟩
 ·rename_i h;exact⟨ox (by simpa using h),rfl⟩
theorem uu (x:Int):aa Tryz.prog 132 [.int .i64 x] (fun u=>u= .bool false):=by
 refine aa.intro ab ac Tryz.func132 rfl (by decide) ?_;(conv=>whnf)
 repeat' first|(refine at_ ?_;conv=>whnf)|(refine ag (fun _=>?_) (fun _=>?_)<;>conv=>whnf)
 exact⟨rfl,rfl⟩
theorem lB (x y:Int):aa Tryz.prog 85 [.int .i64 x, .int .i64 y] (fun u=>u= .int .i64 (hJ x y)):=by
 refine aa.intro ab ac Tryz.func85 rfl (by decide) ?_;(conv=>whnf)
 (refine oP (uu x) ?_;conv=>whnf)
 (refine oP (uu y) ?_;conv=>whnf)
 repeat' first|(refine at_ ?_;conv=>whnf)|(refine ag (fun _=>?_) (fun _=>?_)<;>conv=>whnf)
 all_goals
  refine⟨aj ?_,rfl⟩
  unfold hJ
  simp[*]
theorem iV (xs ys:List Int) (hx:xs.length<=4611686018427387904):aa Tryz.prog 84 [.sl 0 aD xs, .sl 0 aD ys] (fun u=>u= .int .i64 (bz xs ys)):=by
 refine aa.intro ab ac Tryz.func84 rfl (by decide) ?_;(conv=>whnf)
 refine aR.loop (fun k:Nat=>k<=xs.length/\k<=ys.length/\bz xs ys=bz (xs.drop k) (ys.drop k)) (fun k=>((.sl 0 aD xs)::(.sl 0 aD ys):: .top:: .top:: .top:: .top:: .top:: .top:: .top::(.sl 0 aD xs)::(.int .i64 (xs.length:Int))::(.int .i64 (k:Int))::T 24)) (fun _=>ah.ofL []) (fun k=>xs.length-k) 0 ⟨by omega,by omega,by simp⟩ (bE.by_ [] [] 400 rfl trivial ai) ?_
 rintro k ⟨hk1,hk2,hk3⟩
 refine bw ab ac _ _ _ _ ?_
 conv=>whnf
 refine ag (fun h1=>?_) (fun h1=>?_)<;>conv=>whnf
 ·by_cases h2:k<ys.length
  ·rw[FQ (by omega) h2] at hk3
   repeat' first|(refine at_ ?_;conv=>whnf)|(refine ag (fun _=>?_) (fun _=>?_)<;>conv=>whnf)
   (refine oP (lB _ _) ?_;conv=>whnf)
   repeat' first|(refine at_ ?_;conv=>whnf)|(refine ag (fun _=>?_) (fun _=>?_)<;>conv=>whnf)
   ·rename_i h
    exact⟨aj (by rw[hk3,if_pos (by simpa using h)];rfl),rfl⟩
   ·rename_i h
    refine⟨k+1,(bE.by_ [] [] 400 rfl trivial ai),⟨by omega,by omega,?_⟩,Nat.sub_lt_sub_left (by omega) (by omega)⟩
    rw[hk3,if_neg (by simpa using h)]
  ·rw[mi (by omega) (by omega)] at hk3
   repeat' first|(refine at_ ?_;conv=>whnf)|(refine ag (fun _=>?_) (fun _=>?_)<;>conv=>whnf)
   exact⟨aj hk3.symm,rfl⟩
 ·by_cases h2:k<ys.length
  ·rw[mh (by omega) h2] at hk3
   repeat' first|(refine at_ ?_;conv=>whnf)|(refine ag (fun _=>?_) (fun _=>?_)<;>conv=>whnf)
   exact⟨aj hk3.symm,rfl⟩
  ·rw[mj (by omega) h2] at hk3
   repeat' first|(refine at_ ?_;conv=>whnf)|(refine ag (fun _=>?_) (fun _=>?_)<;>conv=>whnf)
   exact⟨aj hk3.symm,rfl⟩
theorem il (xs ys:List Int) (hx:xs.length<=4611686018427387904):aa Tryz.prog 92 [.sl 0 aD xs, .sl 0 aD ys] (fun u=>u= .int .i64 (bz xs ys)):=by
 refine aa.intro ab ac Tryz.func92 rfl (by decide) ?_;(conv=>whnf)
 (refine oP (iV xs ys hx) ?_;conv=>whnf)
 exact⟨rfl,rfl⟩
theorem Fd {α:Type} {d:α} {enc:α->List AV} {l l':List α} (h:l=l'):AV.sl d enc l=AV.sl d enc l':=by rw[h]
def ml {α:Type} (S:List α) (j:Nat) (x:α) (r:List α):List α:=S.take j++x::(S.drop j++r)
theorem rI {α:Type} {S:List α} {j:Nat} (x:α) (r:List α) (h0:0<j) (h1:j<=S.length):
  ml S j x r=S.take (j-1)++S[j-1]::x::(S.drop j++r)/\ml S (j-1) x r=S.take (j-1)++x::S[j-1]::(S.drop j++r):=by
 obtain⟨m,rfl⟩:∃m,j=m+1:=⟨j-1,by omega⟩
 simp only[Nat.add_sub_cancel]
 unfold ml
 have e1:S.take (m+1)=S.take m++[S[m]]:=List.take_succ_eq_append_getElem (by omega)
 have e2:S.drop m=S[m]::S.drop (m+1):=List.drop_eq_getElem_cons (by omega)
 constructor
 ·rw[e1,List.append_assoc];rfl
 ·rw[e2];rfl
theorem pw {α:Type} {S:List α} {j:Nat} (x:α) (r:List α):(ml S j x r).length=S.length+1+r.length:=by
 unfold ml;simp;omega
theorem FR {α:Type} {S:List α} {j:Nat} (x:α) (r:List α) (d:α) (h1:j<=S.length):(ml S j x r).getD j d=x:=by
 unfold ml
 rw[gD,List.getElem?_append_right (by simp;omega)]
 simp[show min j S.length=j from by omega]
theorem ww {α:Type} {S:List α} {j:Nat} (x:α) (r:List α) (d:α) (h0:0<j) (h1:j<=S.length):(ml S j x r).getD (j-1) d=S[j-1]:=by
 rw[(rI x r h0 h1).1,gD,List.getElem?_append_right (by simp;omega)]
 simp[show min (j-1) S.length=j-1 from by omega]
theorem A0 {α:Type} (A B:List α) (x y:α):(A++x::B).set A.length y=A++y::B:=by
 simp
theorem A2 {α:Type} {S:List α} {j:Nat} (x:α) (r:List α) (h0:0<j) (h1:j<=S.length):((ml S j x r).set j S[j-1]).set (j-1) x=ml S (j-1) x r:=by
 obtain⟨e1,e2⟩:=rI x r h0 h1
 rw[e1,e2]
 have hl:(S.take (j-1)).length=j-1:=by simp;omega
 have a1:(S.take (j-1)++S[j-1]::x::(S.drop j++r)).set j S[j-1]=S.take (j-1)++S[j-1]::S[j-1]::(S.drop j++r):=by
  have:=A0 (S.take (j-1)++[S[j-1]]) (S.drop j++r) x S[j-1]
  rw[List.length_append,hl] at this
  simp only[List.length_cons,List.length_nil,List.append_assoc,List.cons_append,List.nil_append] at this
  rw[show j-1+(0+1)=j from by omega] at this
  exact this
 rw[a1]
 have:=A0 (S.take (j-1)) (S[j-1]::(S.drop j++r)) S[j-1] x
 rw[hl] at this
 exact this
theorem A3 {α:Type} (S:List α) (j:Nat) (x:α) (r:List α):(ml S j x r).Perm (S++x::r):=by
 unfold ml
 have:(S++x::r)=S.take j++(S.drop j++x::r):=by rw[<-List.append_assoc,List.take_append_drop]
 rw[this]
 refine List.Perm.append_left _ ?_
 exact List.perm_middle.symm
structure Jk (α:Type) (c:α->α->Int):Prop where
 anti:∀a b,c a b<0->c b a>0
 anti':∀a b,c a b>0->c b a<0
 trans:∀a b d,c a b<=0->c b d<=0->c a d<=0
def z1 {α:Type} (c:α->α->Int) (l:List α):Prop:=l.Pairwise fun a b=>c a b<=0
theorem px {α:Type} {c:α->α->Int} (hc:Jk α c) {S:List α} (hS:z1 c S) {j:Nat} (hj:j<=S.length) (x:α) (h1:∀s∈S.drop j,c x s<0) (h2:∀(h:0<j),¬c x (S[j-1]'(by omega))<0):z1 c (ml S j x []):=by
 unfold ml z1
 have hsplit:S.take j++S.drop j=S:=List.take_append_drop j S
 unfold z1 at hS
 rw[<-hsplit,List.pairwise_append] at hS
 obtain⟨hA,hB,hAB⟩:=hS
 have hlast:∀a∈S.take j,c a x<=0:=by
  intro a ha
  by_cases h0:0<j
  ·have hx:=h2 h0
   have hlx:c S[j-1] x<=0:=by
    by_cases hh:c S[j-1] x<=0
    ·exact hh
    ·exact absurd (hc.anti' _ _ (by omega)) hx
   have e1:S.take j=S.take (j-1)++[S[j-1]]:=by
    obtain⟨m,rfl⟩:∃m,j=m+1:=⟨j-1,by omega⟩
    exact List.take_succ_eq_append_getElem (by omega)
   rw[e1] at ha hA
   rcases List.mem_append.1 ha with ha|ha
   ·rw[List.pairwise_append] at hA
    exact hc.trans _ _ _ (hA.2.2 a ha _ (by simp)) hlx
   ·simp at ha;subst ha;exact hlx
  ·have:j=0:=by omega
   subst this;simp at ha
 rw[List.pairwise_append]
 refine⟨hA,?_,?_⟩
 ·rw[List.append_nil,List.pairwise_cons]
  exact⟨fun s hs=>by have:=h1 s hs;omega,hB⟩
 ·intro a ha b hb
  rcases List.mem_cons.1 hb with rfl|hb
  ·exact hlast a ha
  ·rw[List.append_nil] at hb;exact hAB a ha b hb
theorem ku:Jk (List Int) bz where
 anti:=by
  intro a
  induction a with
  |nil=>intro b h;cases b<;>simp_all [bz]
  |cons x xs ih=>
   intro b h
   cases b with
   |nil=>simp[bz] at h
   |cons y ys=>
    simp only[bz] at*
    by_cases a:x<y
    ·simp[a,show¬y<x from by omega]
    ·by_cases b:y<x
     ·simp[a,b] at h
     ·simp only[a,b,if_false] at*;exact ih ys h
 anti':=by
  intro a
  induction a with
  |nil=>intro b h;cases b<;>simp_all [bz]
  |cons x xs ih=>
   intro b h
   cases b with
   |nil=>simp[bz]
   |cons y ys=>
    simp only[bz] at*
    by_cases a:x<y
    ·simp[a] at h
    ·by_cases b:y<x
     ·simp[b]
     ·simp only[a,b,if_false] at*;exact ih ys h
 trans:=by
  intro a
  induction a with
  |nil=>intro b d _ h2;cases d<;>simp[bz]
  |cons x xs ih=>
   intro b d h1 h2
   cases b with
   |nil=>simp[bz] at h1
   |cons y ys=>
    cases d with
    |nil=>simp[bz] at h2
    |cons z zs=>
     simp only[bz] at*
     by_cases a1:x<y
     ·by_cases b1:y<z
      ·simp[show x<z from by omega]
      ·by_cases b2:z<y
       ·simp[b1,b2] at h2
       ·simp[show x<z from by omega]
     ·by_cases a2:y<x
      ·simp[a1,a2] at h1
      ·by_cases b1:y<z
       ·simp[show x<z from by omega]
       ·by_cases b2:z<y
        ·simp[b1,b2] at h2
        ·have e1:¬x<z:=by omega
         have e2:¬z<x:=by omega
         simp only[a1,a2,b1,b2,e1,e2,if_false] at*
         exact ih ys zs h1 h2
theorem gu:∀{a b:List Int},bz a b=0->a=b
 |[],[],_=>rfl
 |[],_::_,h=>by simp[bz] at h
 |_::_,[],h=>by simp[bz] at h
 |x::xs,y::ys,h=>by
  simp only[bz] at h
  by_cases a:x<y
  ·simp[a] at h
  ·by_cases b:y<x
   ·simp[a,b] at h
   ·simp only[a,b,if_false] at h
    rw[gu h,show x=y from by omega]
theorem rJ:∀(a:List Int),bz a a=0
 |[]=>rfl
 |x::xs=>by simp[bz,rJ xs]
set_option maxRecDepth 10000
def cX (l:List (List Int)):bj:=.row 24 [] eG l
theorem im {l l':List (List Int)} (h:l=l'):cX l=cX l':=by rw[h]
theorem DV {α:Type} (S:List α) (x:α) (r:List α):ml S S.length x r=S++x::r:=by simp[ml]
theorem sR {α:Type} (S:List α) (j:Nat) (x:α) (r:List α):ml S j x r=ml S j x []++r:=by simp[ml]
theorem DW (l:List (List Int)) (hn:l.length<=4611686018427387904) (hb:∀a∈l,a.length<=4611686018427387904):
  ar Tryz.prog 175 [.row 0 l.length 1, .int .i64 0, .int .i64 (l.length:Int), .fn 92 []] (ah.ofL [(0,cX l)])
   (fun u M'=>u= .tup []/\∃l',M' 0=some (cX l')/\l'.Perm l/\z1 bz l'):=by
 refine ar.intro ab ac [(0,cX l)] Tryz.func175 rfl (by decide) ?_
 conv=>whnf
 repeat' first|(refine at_ ?_;conv=>whnf)|(refine ag (fun _=>?_) (fun _=>?_)<;>conv=>whnf)
 cases l with
 |nil=>
  refine aR.loop (fun _:Nat=>True) (fun _=>((.row 0 0 1):: .top::(.int .i64 0):: .top:: .top:: .top:: .top:: .top::(.int .i64 1)::T 44)) (fun _=>ah.ofL [(0,cX [])]) (fun _=>0) 0 trivial (bE.by_ [(0, .old 0)] _ 400 rfl ⟨rfl,trivial⟩ (ai)) ?_
  intro k _
  refine bw ab ac _ _ _ _ ?_
  conv=>whnf
  repeat' first|(refine at_ ?_;conv=>whnf)|(refine ag (fun _=>?_) (fun _=>?_)<;>conv=>whnf)
  exact⟨rfl,[],rfl,List.Perm.refl _,List.Pairwise.nil⟩
 |cons x0 l0=>
  refine aR.loop2 (fun S rest:List (List Int)=>(S++rest).Perm (x0::l0)/\z1 bz S/\0<S.length) (fun S _=>((.row 0 (x0::l0).length 1)::(.int .i64 0)::(.int .i64 ((x0::l0).length:Int))::(.fn 92 []):: .top:: .top:: .top:: .top::(.int .i64 (S.length:Int))::T 44)) (fun S rest=>ah.ofL [(0,cX (S++rest))]) (fun _ rest=>rest.length) [x0] l0 ⟨List.Perm.refl _,List.pairwise_singleton _ _,by simp⟩ (bE.by_ [(0, .old 0)] _ 400 rfl ⟨rfl,trivial⟩ (ai)) ?_
  rintro S rest ⟨hp,hs,h0⟩
  have hlen:S.length+rest.length=(x0::l0).length:=by have:=hp.length_eq;simpa using this
  refine bw ab ac _ _ _ _ ?_
  conv=>whnf
  cases rest with
  |nil=>
   simp only[List.length_nil] at hlen
   repeat' first|(refine at_ ?_;conv=>whnf)|(refine ag (fun _=>?_) (fun _=>?_)<;>conv=>whnf)
   rw[List.append_nil] at hp
   exact⟨rfl,S,by rw[List.append_nil];rfl,hp,hs⟩
  |cons x r=>
   have hbx:∀a∈S++x::r,a.length<=4611686018427387904:=fun a ha=>hb a (hp.mem_iff.1 ha)
   generalize hnn:(x0::l0).length=n at hlen hn⊢
   simp only[List.length_cons] at hlen
   refine tI ?_
   conv=>whnf
   refine aR.loop (fun j:Nat=>j<=S.length/\∀s∈S.drop j,bz x s<0) (fun j=>((.row 0 n 1)::(.int .i64 0)::(.int .i64 (n:Int))::(.fn 92 []):: .top:: .top:: .top:: .top::(.int .i64 (S.length:Int))::(.int .i64 (j:Int))::T 43)) (fun j=>ah.ofL [(0,cX (ml S j x r))]) (fun j=>j) S.length ⟨Nat.le_refl _,by simp⟩ (bE.by_ [(0, .old 0)] _ 400 rfl ⟨im (DV S x r).symm,trivial⟩ (ai)) ?_
   rintro j ⟨hj,hgt⟩
   have hml:(ml S j x r).length=n:=by rw[pw];omega
   refine bw ab ac _ _ _ _ ?_
   conv=>whnf
   refine Fa (by kernel_rfl) ?_
   conv=>whnf
   have hml2:(ml S j x []).length=S.length+1:=by rw[pw];rfl
   have hp2:(ml S j x []++r).Perm (x0::l0):=by rw[<-sR];exact(A3 S j x r).trans hp
   have hx:∀(h:z1 bz (ml S j x [])),(ml S j x []++r).Perm (x0::l0)/\z1 bz (ml S j x [])/\0<(ml S j x []).length:=fun h=>⟨hp2,h,by omega⟩
   refine ag (fun h1=>?_) (fun h1=>?_)<;>conv=>whnf
   ·repeat' first|(refine at_ ?_;conv=>whnf)|(refine ag (fun _=>?_) (fun _=>?_)<;>conv=>whnf)
    have e1:=FR (j:=j) x r [] hj
    have e2:=ww (j:=j) x r [] (by omega) hj
    have e3:((j:Int)-1).toNat=j-1:=by omega
    simp only[tN,e3,e1,e2]
    (refine oC (il x S[j-1] (hbx x (by simp))) ?_;conv=>whnf)
    repeat' first|(refine at_ ?_;conv=>whnf)|(refine ag (fun _=>?_) (fun _=>?_)<;>conv=>whnf)
    ·rename_i hc
     refine⟨j-1,bE.by_ [(0, .old 0)] _ 400 rfl ⟨im ?_,trivial⟩ (ai),⟨by omega,?_⟩,Nat.sub_lt (by omega) (by omega)⟩
     ·simp only[tN,e3,e1,e2]
      exact A2 x r (by omega) hj
     ·have:S.drop (j-1)=S[j-1]::S.drop j:=by
       rw[List.drop_eq_getElem_cons (by omega)]
       congr 2;omega
      rw[this]
      intro s hs'
      rcases List.mem_cons.1 hs' with rfl|hs'
      ·exact hc
      ·exact hgt s hs'
    ·rename_i hc
     exact⟨ml S j x [],r,bE.by_ [(0, .old 0)] _ 400 rfl ⟨im (sR S j x r),trivial⟩ (ai),hx (px ku hs hj x hgt fun _=>hc),Nat.lt_succ_self _⟩
   ·repeat' first|(refine at_ ?_;conv=>whnf)|(refine ag (fun _=>?_) (fun _=>?_)<;>conv=>whnf)
    exact⟨ml S j x [],r,bE.by_ [(0, .old 0)] _ 400 rfl ⟨im (sR S j x r),trivial⟩ (ai),hx (px ku hs hj x hgt fun h=>absurd h (by omega)),Nat.lt_succ_self _⟩
set_option maxRecDepth 10000
theorem yS (x:Int) (h0:0<=x) (h1:x<256):aa Tryz.prog 184 [.int .u64 x] (fun u=>∃n:Int,u= .int .i64 n):=by
 refine aa.intro ab ac Tryz.func184 rfl (by decide) ?_;(conv=>whnf)
 repeat' first|(refine at_ ?_;conv=>whnf)|(refine ag (fun _=>?_) (fun _=>?_)<;>conv=>whnf)
 refine dA ⟨by omega,Int.lt_of_lt_of_le h1 (by decide)⟩ ?_
 conv=>whnf
 refine GQ trivial ?_
 conv=>whnf
 refine GQ trivial ?_
 conv=>whnf
 exact⟨⟨_,rfl⟩,rfl⟩
theorem DX (x:Int) (h0:0<=x) (h1:x<256):aa Tryz.prog 158 [.int .u64 x] (fun u=>∃n:Int,u= .int .i64 n):=by
 refine aa.intro ab ac Tryz.func158 rfl (by decide) ?_;(conv=>whnf)
 repeat' first|(refine at_ ?_;conv=>whnf)|(refine ag (fun _=>?_) (fun _=>?_)<;>conv=>whnf)
 refine ar.of_pure (n:=5) (yS x h0 h1) rfl ?_
 rintro _ ⟨n,rfl⟩
 conv=>whnf
 exact⟨⟨_,rfl⟩,rfl⟩
theorem A4 (l:List (List Int)) (lim:Int) (hn:l.length<=12) (hb:∀a∈l,a.length<=4611686018427387904):
  ar Tryz.prog 157 [.row 0 l.length 1, .int .i64 0, .int .i64 (l.length:Int), .int .i64 lim, .fn 92 []] (ah.ofL [(0,cX l)])
   (fun u M'=>u= .tup []/\∃l',M' 0=some (cX l')/\l'.Perm l/\z1 bz l'):=by
 refine ar.intro ab ac [(0,cX l)] Tryz.func157 rfl (by decide) ?_
 conv=>whnf
 repeat' first|(refine at_ ?_;conv=>whnf)|(refine ag (fun _=>?_) (fun _=>?_)<;>conv=>whnf)
 refine aR.loop (fun _:Nat=>True) (fun _=>((.row 0 l.length 1)::(.int .i64 0)::(.int .i64 (l.length:Int))::(.int .i64 lim)::(.fn 92 [])::T 143)) (fun _=>ah.ofL [(0,cX l)]) (fun _=>0) 0 trivial (bE.by_ [(0, .old 0)] _ 400 rfl ⟨rfl,trivial⟩ (ai)) ?_
 intro k _
 refine bw ab ac _ _ _ _ ?_
 conv=>whnf
 repeat' first|(refine at_ ?_;conv=>whnf)|(refine ag (fun _=>?_) (fun _=>?_)<;>conv=>whnf)
 refine ar.call [(0, .old 0)] [(0,cX l)] 100 rfl ⟨rfl,trivial⟩ (ai) (DW l (by omega) hb) ?_
 rintro u M' ⟨rfl,l',hM,hp,hs⟩
 refine⟨[(0, .old 0)],[(0,cX l')], .tup [],rfl,⟨?_,trivial⟩,trivial,?_⟩
 ·show jR _ _ (M' 0) _
  rw[hM];exact rfl
 ·conv=>whnf
  exact⟨rfl,l',rfl,hp,hs⟩
theorem A5 (l:List (List Int)) (hn:l.length<=12) (hb:∀a∈l,a.length<=4611686018427387904):
  ar Tryz.prog 135 [.row 0 l.length 1, .fn 92 []] (ah.ofL [(0,cX l)])
   (fun u M'=>u= .tup []/\∃l',M' 0=some (cX l')/\l'.Perm l/\z1 bz l'):=by
 refine ar.intro ab ac [(0,cX l)] Tryz.func135 rfl (by decide) ?_
 conv=>whnf
 repeat' first|(refine at_ ?_;conv=>whnf)|(refine ag (fun _=>?_) (fun _=>?_)<;>conv=>whnf)
 refine ar.of_pure (n:=5) (DX l.length (by omega) (by omega)) rfl ?_
 rintro _ ⟨lim,rfl⟩
 conv=>whnf
 refine ar.call [(0, .old 0)] [(0,cX l)] 100 rfl ⟨rfl,trivial⟩ (ai) (A4 l lim hn hb) ?_
 rintro u M' ⟨rfl,l',hM,hp,hs⟩
 refine⟨[(0, .old 0)],[(0,cX l')], .tup [],rfl,⟨?_,trivial⟩,trivial,?_⟩
 ·show jR _ _ (M' 0) _
  rw[hM];exact rfl
 ·conv=>whnf
  exact⟨rfl,l',rfl,hp,hs⟩
set_option maxRecDepth 10000
theorem FS (xs ys:List Int) (hx:xs.length<=4611686018427387904):aa Tryz.prog 137 [.sl 0 aD xs, .sl 0 aD ys, .pd [.fn 92 []]] (fun u=>u= .bool (decide (bz xs ys=0))):=by
 refine aa.intro ab ac Tryz.func137 rfl (by decide) ?_;(conv=>whnf)
 (refine oP (il xs ys hx) ?_;conv=>whnf)
 repeat' first|(refine at_ ?_;conv=>whnf)|(refine ag (fun _=>?_) (fun _=>?_)<;>conv=>whnf)
 ·rename_i h;exact⟨ox (by simpa using h),rfl⟩
 ·rename_i h;exact⟨ox (by simpa using h),rfl⟩
theorem uv (l:List (List Int)) (hn:l.length<=4611686018427387904) (hb:∀a∈l,a.length<=4611686018427387904) (hd:∀i,i+1<l.length->bz (l.getD (i+1) []) (l.getD i [])≠0):
  ar Tryz.prog 136 [.row 0 l.length 1, .fn 137 [.pd [.fn 92 []]]] (ah.ofL [(0,cX l)])
   (fun u M'=>u= .row 0 l.length 1/\M' 0=some (cX l)):=by
 refine ar.intro ab ac [(0,cX l)] Tryz.func136 rfl (by decide) ?_
 conv=>whnf
 repeat' first|(refine at_ ?_;conv=>whnf)|(refine ag (fun _=>?_) (fun _=>?_)<;>conv=>whnf)
 ·exact⟨rfl,rfl⟩
 ·refine aR.loop (fun i:Nat=>1<=i/\i<=l.length) (fun i=>((.row 0 l.length 1)::(.fn 137 [.pd [.fn 92 []]]):: .top:: .top:: .top::(.int .i64 (i:Int))::T 60)) (fun _=>ah.ofL [(0,cX l)]) (fun i=>l.length-i) 1 ⟨by omega,by omega⟩ (bE.by_ [(0, .old 0)] _ 400 rfl ⟨rfl,trivial⟩ (ai)) ?_
  rintro i ⟨h1,h2⟩
  refine bw ab ac _ _ _ _ ?_
  conv=>whnf
  repeat' first|(refine at_ ?_;conv=>whnf)|(refine ag (fun _=>?_) (fun _=>?_)<;>conv=>whnf)
  ·have e3:((i:Int)-1).toNat=i-1:=by omega
   have hh:=hd (i-1) (by omega)
   rw[show i-1+1=i from by omega] at hh
   have hi:l.getD i []∈l:=List.mem_of_getElem? (ci (d:=[]) (l:=l) (n:=i) (by omega))
   simp only[tN,e3]
   refine sJ 5 (FS (l.getD i []) (l.getD (i-1) []) (hb _ hi)) rfl ⟨_,rfl⟩ ?_
   rintro _ rfl
   rw[decide_eq_false hh]
   conv=>whnf
   repeat' first|(refine at_ ?_;conv=>whnf)|(refine ag (fun _=>?_) (fun _=>?_)<;>conv=>whnf)
   exact⟨i+1,bE.by_ [(0, .old 0)] _ 400 rfl ⟨rfl,trivial⟩ (ai),⟨by omega,by omega⟩,Nat.sub_lt_sub_left (by omega) (by omega)⟩
  ·exact⟨rfl,rfl⟩
def Di (l:List (List Int)):Prop:=l.Pairwise fun a b=>bz a b<0
theorem FT {l l':List (List Int)} (hp:l'.Perm l) (hs:z1 bz l') (hd:l.Nodup):Di l':=by
 have hd':l'.Nodup:=hp.nodup_iff.2 hd
 unfold Di
 unfold z1 at hs
 refine(hs.and hd').imp fun{a b} h=>?_
 have hne:bz a b≠0:=fun e=>h.2 (gu e)
 have:=h.1
 omega
theorem DY {l:List (List Int)} (h:Di l) (i:Nat) (hi:i+1<l.length):bz (l.getD (i+1) []) (l.getD i [])≠0:=by
 have h1:=List.pairwise_iff_getElem.1 h i (i+1) (by omega) hi (by omega)
 have e1:l.getD (i+1) []=l[i+1]:=by simp[List.getD,hi]
 have e2:l.getD i []=l[i]:=by simp[List.getD,show i<l.length from by omega]
 rw[e1,e2]
 have:=ku.anti _ _ h1
 omega
theorem Hp (l:List (List Int)) (hn:l.length<=12) (hb:∀a∈l,a.length<=4611686018427387904) (hd:l.Nodup):
  aa Tryz.prog 91 [.sl [] eG l, .fn 92 []] (fun u=>∃l',u= .sl [] eG l'/\l'.Perm l/\Di l'):=by
 refine aa.intro ab ac Tryz.func91 rfl (by decide) ?_;(conv=>whnf)
 repeat' first|(refine at_ ?_;conv=>whnf)|(refine ag (fun _=>?_) (fun _=>?_)<;>conv=>whnf)
 refine ar.call [(0, .old 7)] [(0,cX l)] 100 rfl ⟨rfl,trivial⟩ (ai) (A5 l hn hb) ?_
 rintro u M' ⟨rfl,l',hM,hp,hs⟩
 have hlen:=hp.length_eq
 refine⟨[(7, .old 0)],[(7,cX l')], .tup [],rfl,⟨?_,trivial⟩,trivial,?_⟩
 ·show jR _ _ (M' 0) _
  rw[hM];exact rfl
 have ha:=FT hp hs hd
 rw[<-hlen]
 conv=>whnf
 refine ar.call [(0, .old 7)] [(0,cX l')] 100 rfl ⟨rfl,trivial⟩ (ai) (uv l' (by omega) (fun a h=>hb a (hp.mem_iff.1 h)) (DY ha)) ?_
 rintro u M' ⟨rfl,hM⟩
 refine⟨[(7, .old 0)],[(7,cX l')], .row 7 l'.length 1,rfl,⟨?_,trivial⟩,rfl,?_⟩
 ·show jR _ _ (M' 0) _
  rw[hM];exact rfl
 conv=>whnf
 exact⟨⟨l',rfl,hp,ha⟩,rfl⟩
set_option maxRecDepth 10000
def b7:Nat->List (List Int)
 |1=>[[0]]
 |3=>[[2,0,0]]
 |5=>[[2,0,2,0,0],[2,2,0,0,0]]
 |7=>[[2,0,2,0,2,0,0],[2,0,2,2,0,0,0],[2,2,0,0,2,0,0],[2,2,0,2,0,0,0],[2,2,2,0,0,0,0]]
 |_=>[]
def fu (A B:List (List Int)):List (List Int):=A.flatMap fun a=>B.map fun b=>2::(a++b)
def kv (n i:Nat):List (List Int):=(List.range i).flatMap fun t=>fu (b7 (2*t+1)) (b7 (n-1-(2*t+1)))
theorem nn (n i:Nat):kv n (i+1)=kv n i++fu (b7 (2*i+1)) (b7 (n-1-(2*i+1))):=by
 unfold kv;rw[List.range_succ,List.flatMap_append];simp
theorem pz (A B:List (List Int)) (p:Nat) (h:p<A.length):fu (A.take (p+1)) B=fu (A.take p) B++B.map fun b=>2::(A.getD p []++b):=by
 unfold fu
 rw[List.take_succ_eq_append_getElem h,List.flatMap_append]
 simp[List.getD,h]
theorem map_take (B:List (List Int)) (f:List Int->List Int) (q:Nat) (h:q<B.length):(B.take (q+1)).map f=(B.take q).map f++[f (B.getD q [])]:=by
 rw[List.take_succ_eq_append_getElem h,List.map_append]
 have:B.getD q []=B[q]:=by simp[List.getD,h]
 rw[this];rfl
theorem A6:∀n∈List.range 9,(b7 n).length<=5/\∀a∈b7 n,a.length<=8:=by decide
theorem fv {n:Nat} (h:n<=8):(b7 n).length<=5/\∀a∈b7 n,a.length<=8:=A6 n (List.mem_range.2 (by omega))
theorem np (A B:List (List Int)):(fu A B).length=A.length*B.length:=by
 unfold fu
 induction A with
 |nil=>simp
 |cons a A ih=>rw[List.flatMap_cons,List.length_append,ih];simp[Nat.add_mul,Nat.add_comm]
theorem pA {n:Nat} (hn:n<=8):∀i:Nat,2*i<=n->(kv n i).length<=25*i
 |0,_=>by simp[kv]
 |i+1,h=>by
  rw[nn,List.length_append,np]
  have h1:=pA hn i (by omega)
  have h2:=(fv (n:=2*i+1) (by omega)).1
  have h3:=(fv (n:=n-1-(2*i+1)) (by omega)).1
  have h4:(b7 (2*i+1)).length*(b7 (n-1-(2*i+1))).length<=5*5:=Nat.mul_le_mul h2 h3
  omega
theorem pB:∀{l l':List (List Int)},Di l->Di l'->l.Perm l'->l=l'
 |[],l',_,_,hp=>(List.nil_perm.1 hp).symm
 |a::l,[],_,_,hp=>by have:=hp.length_eq;simp at this
 |a::l,b::l',h,h',hp=>by
  have hh:=List.pairwise_cons.1 h
  have hh':=List.pairwise_cons.1 h'
  have hab:a=b:=by
   have h1:a∈b::l':=hp.mem_iff.1 (by simp)
   have h2:b∈a::l:=hp.mem_iff.2 (by simp)
   rcases List.mem_cons.1 h1 with e|h1
   ·exact e
   ·rcases List.mem_cons.1 h2 with e|h2
    ·exact e.symm
    ·have:=hh.1 b h2
     have:=hh'.1 a h1
     have:=ku.anti _ _ (hh.1 b h2)
     omega
  subst hab
  rw[pB hh.2 hh'.2 (List.Perm.cons_inv hp)]
instance (l:List (List Int)):Decidable (Di l):=inferInstanceAs (Decidable (List.Pairwise _ _))
theorem mm:∀m∈[1,2,3],Di (b7 (2*m+1))/\(b7 (2*m+1)).Perm (kv (2*m+1) m)/\(kv (2*m+1) m).Nodup/\(kv (2*m+1) m).length<=12/\∀a∈kv (2*m+1) m,a.length<=8:=by decide
theorem wx (n:Int) (h:n.tmod 2=0):aa Tryz.prog 47 [.int .i64 n] (fun u=>u= .nilsl):=by
 refine aa.intro ab ac Tryz.func47 rfl (by decide) ?_;(conv=>whnf)
 repeat' first|(refine at_ ?_;conv=>whnf)|(refine ag (fun _=>?_) (fun _=>?_)<;>conv=>whnf)
 ·exact⟨rfl,rfl⟩
 all_goals exact absurd h (by assumption)
theorem rK:∀m:Nat,m<=3->aa Tryz.prog 47 [.int .i64 ((2*m+1:Nat):Int)] (fun u=>u= .sl [] eG (b7 (2*m+1))):=by
 intro m
 induction m using Nat.strongRecOn with
 |_ m ih=>
  intro hm
  have hodd:((2*m+1:Nat):Int).tmod 2=1:=by
   rw[Int.tmod_eq_emod_of_nonneg (by omega)];omega
  refine aa.intro ab ac Tryz.func47 rfl (by decide) ?_;(conv=>whnf)
  refine dA (by decide) ?_
  conv=>whnf
  refine fE (by rw[hodd];decide) ?_
  conv=>whnf
  by_cases h0:m=0
  ·subst h0
   repeat' first|(refine at_ ?_;conv=>whnf)|(refine ag (fun _=>?_) (fun _=>?_)<;>conv=>whnf)
   refine c8 [] eG [[0]] rfl ?_
   conv=>whnf
   exact⟨rfl,rfl⟩
  ·repeat' first|(refine at_ ?_;conv=>whnf)|(refine ag (fun _=>?_) (fun _=>?_)<;>conv=>whnf)
   refine aR.loop (fun i:Nat=>i<=m) (fun i=>((.int .i64 ((2*m+1:Nat):Int)):: .top:: .top::(.row 103 (kv (2*m+1) i).length 1)::(.int .i64 ((2*i+1:Nat):Int))::T 46)) (fun i=>ah.ofL [(103,cX (kv (2*m+1) i))]) (fun i=>m-i) 0 (by omega) (bE.by_ [(103, .nil 1)] _ 400 rfl ⟨rfl,trivial⟩ (ai)) ?_
   intro i hi
   refine bw ab ac _ _ _ _ ?_
   conv=>whnf
   repeat' first|(refine at_ ?_;conv=>whnf)|(refine ag (fun _=>?_) (fun _=>?_)<;>conv=>whnf)
   ·(refine oP (ih i (by omega) (by omega)) ?_;conv=>whnf)
    have hA:=fv (n:=2*i+1) (by omega)
    have hB:=fv (n:=2*(m-1-i)+1) (by omega)
    have eB:2*m+1-1-(2*i+1)=2*(m-1-i)+1:=by omega
    have hsucc:=nn (2*m+1) i
    have hpl:=pA (n:=2*m+1) (by omega) i (by omega)
    rw[eB] at hsucc
    have ihB:=ih (m-1-i) (by omega) (by omega)
    have eN:((2*m+1:Nat):Int)-1-((2*i+1:Nat):Int)=((2*(m-1-i)+1:Nat):Int):=by omega
    generalize b7 (2*i+1)=A at hA hsucc⊢
    generalize b7 (2*(m-1-i)+1)=B at hB hsucc ihB
    generalize kv (2*m+1) i=out at hsucc hpl⊢
    refine aR.loop (fun p:Nat=>p<=A.length) (fun p=>((.int .i64 ((2*m+1:Nat):Int)):: .top:: .top::(.row 103 (out++fu (A.take p) B).length 1)::(.int .i64 ((2*i+1:Nat):Int)):: .top:: .top:: .top:: .top:: .top:: .top:: .top:: .top:: .top:: .top:: .top:: .top:: .top:: .top:: .top:: .top:: .top:: .top::(.sl [] eG A)::(.int .i64 (A.length:Int))::(.int .i64 (p:Int))::T 25)) (fun p=>ah.ofL [(103,cX (out++fu (A.take p) B))]) (fun p=>A.length-p) 0 (by omega) (bE.by_ [(103, .old 103)] _ 400 rfl ⟨im (by simp[fu]),trivial⟩ (by simp only[List.take_zero,fu,List.flatMap_nil,List.append_nil];repeat' (first|exact True.intro|exact rfl|(refine And.intro ?_ ?_)|((conv=>whnf);omega)|((conv=>whnf);simp only[List.length_append,List.length_cons,List.length_nil];done)|((conv=>whnf);simp only[List.length_append,List.length_cons,List.length_nil];omega)))) ?_
    intro p hp
    refine bw ab ac _ _ _ _ ?_
    conv=>whnf
    repeat' first|(refine at_ ?_;conv=>whnf)|(refine ag (fun _=>?_) (fun _=>?_)<;>conv=>whnf)
    ·rw[eN]
     (refine oP (ihB) ?_;conv=>whnf)
     have hct:=pz A B p (by omega)
     have hcl:=np (A.take p) B
     have hcl2:(A.take p).length*B.length<=5*5:=Nat.mul_le_mul (by simp;omega) hB.1
     have hal:(A.getD p []).length<=8:=hA.2 _ (List.mem_of_getElem? (ci (d:=[]) (l:=A) (n:=p) (by omega)))
     simp only[tN]
     generalize A.getD p []=a at hct hal⊢
     generalize fu (A.take p) B=base at hct hcl⊢
     refine aR.loop (fun q:Nat=>q<=B.length) (fun q=>((.int .i64 ((2*m+1:Nat):Int)):: .top:: .top::(.row 103 (out++base++(B.take q).map fun b=>2::(a++b)).length 1)::(.int .i64 ((2*i+1:Nat):Int)):: .top::(.sl 0 aD a):: .top:: .top:: .top:: .top:: .top:: .top:: .top:: .top:: .top:: .top:: .top:: .top:: .top:: .top:: .top:: .top::(.sl [] eG A)::(.int .i64 (A.length:Int))::(.int .i64 (p:Int)):: .top:: .top:: .top:: .top:: .top:: .top:: .top::(.sl [] eG B)::(.int .i64 (B.length:Int))::(.int .i64 (q:Int))::T 15)) (fun q=>ah.ofL [(103,cX (out++base++(B.take q).map fun b=>2::(a++b)))]) (fun q=>B.length-q) 0 (by omega) (bE.by_ [(103, .old 103)] _ 400 rfl ⟨im (by simp),trivial⟩ (by simp only[List.take_zero,List.map_nil,List.append_nil];repeat' (first|exact True.intro|exact rfl|(refine And.intro ?_ ?_)|((conv=>whnf);omega)|((conv=>whnf);simp only[List.length_append,List.length_cons,List.length_nil];done)|((conv=>whnf);simp only[List.length_append,List.length_cons,List.length_nil];omega)))) ?_
     intro q hq
     refine bw ab ac _ _ _ _ ?_
     conv=>whnf
     repeat' first|(refine at_ ?_;conv=>whnf)|(refine ag (fun _=>?_) (fun _=>?_)<;>conv=>whnf)
     ·have hbl:(B.getD q []).length<=8:=hB.2 _ (List.mem_of_getElem? (ci (d:=[]) (l:=B) (n:=q) (by omega)))
      have hmt:=map_take B (fun b=>2::(a++b)) q (by omega)
      have hl3:(out++base++(B.take q).map fun b=>2::(a++b)).length<=200:=by
       simp only[List.length_append,List.length_map,List.length_take];omega
      simp only[tN]
      generalize B.getD q []=b at hmt hbl⊢
      generalize hX:(out++base++(B.take q).map fun b=>2::(a++b))=X at hl3⊢
      repeat' first|(refine at_ ?_;conv=>whnf)|(refine ag (fun _=>?_) (fun _=>?_)<;>conv=>whnf)
      refine c8 [] eG [[2]++a++b] rfl ?_
      conv=>whnf
      repeat' first|(refine at_ ?_;conv=>whnf)|(refine ag (fun _=>?_) (fun _=>?_)<;>conv=>whnf)
      have hq1:(out++base++(B.take (q+1)).map fun b=>2::(a++b))=X++[[2]++a++b]:=by rw[hmt,<-hX];simp
      refine⟨q+1,?_,by omega,Nat.sub_lt_sub_left (by omega) (by omega)⟩
      simp only[hq1]
      exact bE.by_ [(103, .old 46)] _ 400 rfl ⟨rfl,trivial⟩ (ai)
     ·have hq2:q=B.length:=by omega
      have hp1:out++base++((B.take q).map fun b=>2::(a++b))=out++fu (A.take (p+1)) B:=by
       rw[hct,hq2,List.take_length,List.append_assoc]
      rw[hp1]
      refine⟨p+1,?_,by omega,Nat.sub_lt_sub_left (by omega) (by omega)⟩
      exact bE.by_ [(103, .old 103)] _ 400 rfl ⟨rfl,trivial⟩ (ai)
    ·have hp2:p=A.length:=by omega
     rw[hp2,List.take_length,<-hsucc]
     refine⟨i+1,?_,by omega,Nat.sub_lt_sub_left (by omega) (by omega)⟩
     exact bE.by_ [(103, .old 103)] _ 400 rfl ⟨rfl,trivial⟩ (ai)
   ·obtain rfl:i=m:=by omega
    have hsh:=mm i (by simp;omega)
    refine ar.hand 103 rfl ?_
    refine ar.of_pure (n:=5) (Hp (kv (2*i+1) i) hsh.2.2.2.1 (fun a ha=>by have:=hsh.2.2.2.2 a ha;omega) hsh.2.2.1) rfl ?_
    rintro _ ⟨l',rfl,hp,ha⟩
    conv=>whnf
    rw[pB ha hsh.1 (hp.trans hsh.2.1.symm)]
    exact⟨rfl,rfl⟩
set_option maxRecDepth 10000
set_option maxHeartbeats 2000000
theorem aa.sub {P:Program} {f:FuncId} {args:List AV} {R R':AV->Prop} (h:aa P f args R) (hr:∀u,R u->∃u',R' u'/\kR [] 20 u u'/\b9 5 u'=true):aa P f args R':=by
 rw[fG] at*
 refine⟨h.1,fun S F vs w h0 h1 h2 h3 hv=>(h.2 S F vs w h0 h1 h2 h3 hv).mono ?_⟩
 rintro e w' ⟨v,u,S',a,b,c,d,e',f',g,hw⟩
 obtain⟨u',hu',hav,hp⟩:=hr u b
 have:=(jp (S:=S') (ρ:=fun _=>none) (lm:=[]) 20).1 u u' v hav (.p g)
 exact⟨v,u',S',a,hu',c,d,e',f',ke 5 hp this,hw⟩
theorem yT:∀m∈[1,2,3],kv (2*m+1) m=b7 (2*m+1):=by decide
theorem sS:∀m:Nat,m<=3->aa Tryz.prog 55 [.int .i64 ((2*m+1:Nat):Int)] (fun u=>u= .sl [] eG (b7 (2*m+1))):=by
 intro m
 induction m using Nat.strongRecOn with
 |_ m ih=>
  intro hm
  refine aa.intro ab ac Tryz.func55 rfl (by decide) ?_;(conv=>whnf)
  by_cases h0:m=0
  ·subst h0
   repeat' first|(refine at_ ?_;conv=>whnf)|(refine ag (fun _=>?_) (fun _=>?_)<;>conv=>whnf)
   refine c8 [] eG [[0]] rfl ?_
   conv=>whnf
   exact⟨rfl,rfl⟩
  ·repeat' first|(refine at_ ?_;conv=>whnf)|(refine ag (fun _=>?_) (fun _=>?_)<;>conv=>whnf)
   refine aR.loop (fun i:Nat=>i<=m) (fun i=>((.int .i64 ((2*m+1:Nat):Int)):: .top:: .top::(.row 103 (kv (2*m+1) i).length 1)::(.int .i64 ((2*i+1:Nat):Int))::T 50)) (fun i=>ah.ofL [(103,cX (kv (2*m+1) i))]) (fun i=>m-i) 0 (by omega) (bE.by_ [(103, .nil 1)] _ 400 rfl ⟨rfl,trivial⟩ (ai)) ?_
   intro i hi
   refine bw ab ac _ _ _ _ ?_
   conv=>whnf
   repeat' first|(refine at_ ?_;conv=>whnf)|(refine ag (fun _=>?_) (fun _=>?_)<;>conv=>whnf)
   ·(refine oP (ih i (by omega) (by omega)) ?_;conv=>whnf)
    repeat' first|(refine at_ ?_;conv=>whnf)|(refine ag (fun _=>?_) (fun _=>?_)<;>conv=>whnf)
    have hA:=fv (n:=2*i+1) (by omega)
    have hB:=fv (n:=2*(m-1-i)+1) (by omega)
    have eB:2*m+1-1-(2*i+1)=2*(m-1-i)+1:=by omega
    have hsucc:=nn (2*m+1) i
    have hpl:=pA (n:=2*m+1) (by omega) i (by omega)
    rw[eB] at hsucc
    have ihB:=ih (m-1-i) (by omega) (by omega)
    have eN:((2*m+1:Nat):Int)-1-((2*i+1:Nat):Int)=((2*(m-1-i)+1:Nat):Int):=by omega
    rw[eN]
    (refine oP (ihB) ?_;conv=>whnf)
    generalize b7 (2*i+1)=A at hA hsucc⊢
    generalize b7 (2*(m-1-i)+1)=B at hB hsucc⊢
    generalize kv (2*m+1) i=out at hsucc hpl⊢
    refine aR.loop (fun p:Nat=>p<=A.length) (fun p=>((.int .i64 ((2*m+1:Nat):Int)):: .top:: .top::(.row 103 (out++fu (A.take p) B).length 1)::(.int .i64 ((2*i+1:Nat):Int))::(.sl [] eG A)::(.sl [] eG B)::(.int .i64 (p:Int))::T 47)) (fun p=>ah.ofL [(103,cX (out++fu (A.take p) B))]) (fun p=>A.length-p) 0 (by omega) (bE.by_ [(103, .old 103)] _ 400 rfl ⟨im (by simp[fu]),trivial⟩ (by simp only[List.take_zero,fu,List.flatMap_nil,List.append_nil];repeat' (first|exact True.intro|exact rfl|(refine And.intro ?_ ?_)|((conv=>whnf);omega)|((conv=>whnf);simp only[List.length_append,List.length_cons,List.length_nil];done)|((conv=>whnf);simp only[List.length_append,List.length_cons,List.length_nil];omega)))) ?_
    intro p hp
    refine bw ab ac _ _ _ _ ?_
    conv=>whnf
    repeat' first|(refine at_ ?_;conv=>whnf)|(refine ag (fun _=>?_) (fun _=>?_)<;>conv=>whnf)
    ·have hct:=pz A B p (by omega)
     have hcl:=np (A.take p) B
     have hcl2:(A.take p).length*B.length<=5*5:=Nat.mul_le_mul (by simp;omega) hB.1
     have hal:(A.getD p []).length<=8:=hA.2 _ (List.mem_of_getElem? (ci (d:=[]) (l:=A) (n:=p) (by omega)))
     generalize fu (A.take p) B=base at hct hcl⊢
     refine aR.loop (fun q:Nat=>q<=B.length) (fun q=>((.int .i64 ((2*m+1:Nat):Int)):: .top:: .top::(.row 103 (out++base++(B.take q).map fun b=>2::(A.getD p []++b)).length 1)::(.int .i64 ((2*i+1:Nat):Int))::(.sl [] eG A)::(.sl [] eG B)::(.int .i64 (p:Int))::(.int .i64 (q:Int))::T 46)) (fun q=>ah.ofL [(103,cX (out++base++(B.take q).map fun b=>2::(A.getD p []++b)))]) (fun q=>B.length-q) 0 (by omega) (bE.by_ [(103, .old 103)] _ 400 rfl ⟨im (by simp),trivial⟩ (by simp only[List.take_zero,List.map_nil,List.append_nil];repeat' (first|exact True.intro|exact rfl|(refine And.intro ?_ ?_)|((conv=>whnf);omega)|((conv=>whnf);simp only[List.length_append,List.length_cons,List.length_nil];done)|((conv=>whnf);simp only[List.length_append,List.length_cons,List.length_nil];omega)))) ?_
     intro q hq
     refine bw ab ac _ _ _ _ ?_
     conv=>whnf
     refine ag (fun h3=>?_) (fun h3=>?_)<;>conv=>whnf
     ·have hbl:(B.getD q []).length<=8:=hB.2 _ (List.mem_of_getElem? (ci (d:=[]) (l:=B) (n:=q) (by omega)))
      have hmt:=map_take B (fun b=>2::(A.getD p []++b)) q (by omega)
      have hl3:(out++base++(B.take q).map fun b=>2::(A.getD p []++b)).length<=200:=by
       simp only[List.length_append,List.length_map,List.length_take];omega
      generalize hX:(out++base++(B.take q).map fun b=>2::(A.getD p []++b))=X at hl3⊢
      refine nI ?_
      conv=>whnf
      simp only[tN]
      repeat' first|(refine at_ ?_;conv=>whnf)|(refine ag (fun _=>?_) (fun _=>?_)<;>conv=>whnf)
      simp only[tN]
      repeat' first|(refine at_ ?_;conv=>whnf)|(refine ag (fun _=>?_) (fun _=>?_)<;>conv=>whnf)
      refine c8 [] eG [[2]++A.getD p []++B.getD q []] rfl ?_
      conv=>whnf
      repeat' first|(refine at_ ?_;conv=>whnf)|(refine ag (fun _=>?_) (fun _=>?_)<;>conv=>whnf)
      have hq1:(out++base++(B.take (q+1)).map fun b=>2::(A.getD p []++b))=X++[[2]++A.getD p []++B.getD q []]:=by rw[hmt,<-hX];simp
      refine⟨q+1,?_,by omega,Nat.sub_lt_sub_left (by omega) (by omega)⟩
      simp only[hq1]
      exact bE.by_ [(103, .old 53)] _ 400 rfl ⟨rfl,trivial⟩ (ai)
     ·have hq2:q=B.length:=by omega
      have hp1:out++base++((B.take q).map fun b=>2::(A.getD p []++b))=out++fu (A.take (p+1)) B:=by
       rw[hct,hq2,List.take_length,List.append_assoc]
      rw[hp1]
      repeat' first|(refine at_ ?_;conv=>whnf)|(refine ag (fun _=>?_) (fun _=>?_)<;>conv=>whnf)
      refine⟨p+1,?_,by omega,Nat.sub_lt_sub_left (by omega) (by omega)⟩
      exact bE.by_ [(103, .old 103)] _ 400 rfl ⟨rfl,trivial⟩ (ai)
    ·have hp2:p=A.length:=by omega
     rw[hp2,List.take_length,<-hsucc]
     refine⟨i+1,?_,by omega,Nat.sub_lt_sub_left (by omega) (by omega)⟩
     exact bE.by_ [(103, .old 103)] _ 400 rfl ⟨rfl,trivial⟩ (ai)
   ·obtain rfl:i=m:=by omega
    rw[yT i (by simp;omega)]
    exact⟨rfl,rfl⟩
set_option maxRecDepth 10000
set_option maxHeartbeats 2000000
theorem uw (l:List (List Int)) (hn:l.length<=4611686018427387904) (hb:∀a∈l,a.length<=4611686018427387904) (ha:Di l):aa Tryz.prog 56 [.sl [] eG l] (fun u=>u= .tup []):=by
 refine aa.intro ab ac Tryz.func56 rfl (by decide) ?_;(conv=>whnf)
 refine aR.loop (fun i:Nat=>1<=i/\i<=l.length+1) (fun i=>((.sl [] eG l):: .top::(.int .i64 (i:Int))::T 41)) (fun _=>ah.ofL []) (fun i=>l.length+1-i) 1 ⟨by omega,by omega⟩ (bE.by_ [] [] 400 rfl trivial ai) ?_
 rintro i ⟨h1,h2⟩
 refine bw ab ac _ _ _ _ ?_
 conv=>whnf
 refine ag (fun h3=>?_) (fun h3=>?_)<;>conv=>whnf
 ·refine aR.loop (fun _:Nat=>True) (fun _=>((.sl [] eG l):: .top::(.int .i64 (i:Int))::(.int .i64 (i:Int))::T 40)) (fun _=>ah.ofL []) (fun _=>0) 0 trivial (bE.by_ [] [] 400 rfl trivial ai) ?_
  intro _ _
  refine bw ab ac _ _ _ _ ?_
  conv=>whnf
  repeat' first|(refine at_ ?_;conv=>whnf)|(refine ag (fun _=>?_) (fun _=>?_)<;>conv=>whnf)
  have e3:((i:Int)-1).toNat=i-1:=by omega
  have hi:l.getD (i-1) []∈l:=List.mem_of_getElem? (ci (d:=[]) (l:=l) (n:=i-1) (by omega))
  have hc:bz (l.getD (i-1) []) (l.getD i [])<0:=by
   have h4:=List.pairwise_iff_getElem.1 ha (i-1) i (by omega) (by omega) (by omega)
   have e1:l.getD i []=l[i]:=by simp[List.getD,show i<l.length from by omega]
   have e2:l.getD (i-1) []=l[i-1]:=by simp[List.getD,show i-1<l.length from by omega]
   rw[e1,e2];exact h4
  simp only[tN,e3]
  refine sJ 5 (cD (l.getD (i-1) []) (l.getD i []) (hb _ hi)) rfl ⟨_,rfl⟩ ?_
  rintro _ rfl
  conv=>whnf
  repeat' first|(refine at_ ?_;conv=>whnf)|(refine ag (fun _=>?_) (fun _=>?_)<;>conv=>whnf)
  exact⟨i+1,(bE.by_ [] [] 400 rfl trivial ai),⟨by omega,by omega⟩,Nat.sub_lt_sub_left (by omega) (by omega)⟩
 ·exact⟨rfl,rfl⟩
theorem DZ (n:Nat) (h:n<=8):(((n:Int).tmod 2=0)/\b7 n=[])\/∃m,m<=3/\n=2*m+1/\(n:Int).tmod 2≠0:=by
 have:n=0\/n=1\/n=2\/n=3\/n=4\/n=5\/n=6\/n=7\/n=8:=by omega
 rcases this with rfl|rfl|rfl|rfl|rfl|rfl|rfl|rfl|rfl
 ·left;decide
 ·right;exact⟨0,by decide⟩
 ·left;decide
 ·right;exact⟨1,by decide⟩
 ·left;decide
 ·right;exact⟨2,by decide⟩
 ·left;decide
 ·right;exact⟨3,by decide⟩
 ·left;decide
def sT (n:Int):AV:=if 1<=n/\n<=8 then .tup [.sl [] eG (b7 n.toNat), .int .i64 0] else .tup [.sl [] eG [], .int .i64 1]
theorem pC {n:Int} (h:1<=n/\n<=8):sT n= .tup [.sl [] eG (b7 n.toNat), .int .i64 0]:=if_pos h
theorem uz {n:Int} (h:¬(1<=n/\n<=8)):sT n= .tup [.sl [] eG [], .int .i64 1]:=if_neg h
theorem qJ (n:Int):aa Tryz.prog 19 [.int .i64 n] (fun u=>u=sT n):=by
 by_cases h:1<=n/\n<=8
 ·rw[pC h]
  obtain⟨k,rfl⟩:=Int.eq_ofNat_of_zero_le (show 0<=n by omega)
  rcases DZ k (by omega) with ⟨he,hs⟩|⟨m,hm,rfl,_⟩
  ·rw[tN,hs]
   refine aa.sub (R:=fun u=>u= .tup [.nilsl, .int .i64 0]) ?_ (by rintro _ rfl;exact⟨_,rfl,(ai),rfl⟩)
   refine aa.intro ab ac Tryz.func19 rfl (by decide) ?_;(conv=>whnf)
   repeat' first|(refine at_ ?_;conv=>whnf)|(refine ag (fun _=>?_) (fun _=>?_)<;>conv=>whnf)
   (refine oP (wx _ he) ?_;conv=>whnf)
   exact⟨rfl,rfl⟩
  ·rw[tN]
   refine aa.intro ab ac Tryz.func19 rfl (by decide) ?_;(conv=>whnf)
   repeat' first|(refine at_ ?_;conv=>whnf)|(refine ag (fun _=>?_) (fun _=>?_)<;>conv=>whnf)
   (refine oP (rK m hm) ?_;conv=>whnf)
   exact⟨rfl,rfl⟩
 ·rw[uz h]
  refine aa.sub (R:=fun u=>u= .tup [.nilsl, .int .i64 1]) ?_ (by rintro _ rfl;exact⟨_,rfl,(ai),rfl⟩)
  refine aa.intro ab ac Tryz.func19 rfl (by decide) ?_;(conv=>whnf)
  repeat' first|(refine at_ ?_;conv=>whnf)|(refine ag (fun _=>?_) (fun _=>?_)<;>conv=>whnf)
  ·exact⟨rfl,rfl⟩
  ·exact⟨rfl,rfl⟩
theorem qK (s:AV) (count i:Int) (h0:0<=i) (h1:i<count) (hc:count<=9223372036854775807):aa Tryz.prog 18 [.int .i64 3,s, .int .i64 count, .int .i64 i]
  (fun u=>u= .tup [.int .i64 (if i-1<0 then count-1 else i-1), .int .i64 (if i+1=count then 0 else i+1), .int .i64 (-1)]):=by
 refine aa.intro ab ac Tryz.func18 rfl (by decide) ?_;(conv=>whnf)
 repeat' first|(refine at_ ?_;conv=>whnf)|(refine ag (fun _=>?_) (fun _=>?_)<;>conv=>whnf)
 all_goals(simp_all [d9,b9];try omega)
end Go.Proofs.YtblcpnmnibcbbaaGreatDoor
set_option maxRecDepth 100000
namespace Go.Proofs.YtblcpnmnibcbbaaGreatDoor
theorem IV:(b7 (Int.toNat 5)).length=2:=by decide
theorem Hq:(b7 (Int.toNat 5)).getD (Int.toNat 0) []=[2,0,2,0,0]:=by decide
theorem IW:aa Tryz.prog 7 [] (fun u=>u= .bool true):=by
 have hs:=qJ 5
 rw[pC (by decide)] at hs
 have hn:=qK .nilsl 2 0 (by decide) (by decide) (by decide)
 simp only[show((0:Int)-1<0)=True from by simp,if_true,show(2:Int)-1=1 from rfl,show(0:Int)+1=1 from rfl,show((1:Int)=2)=False from by simp,if_false] at hn
 refine aa.intro ab ac Tryz.func7 rfl (by decide) ?_;(conv=>whnf)
 (refine oP (hn) ?_;conv=>whnf)
 (refine oP (hs) ?_;conv=>whnf)
 repeat' first|(refine at_ ?_;conv=>whnf)|(refine ag (fun _=>?_) (fun _=>?_)<;>conv=>whnf)
 ·rw[Hq]
  refine ar.hand 38 rfl ?_
  (refine oP (ut [2,0,2,0,0] [2,0,2,0,0] (by decide)) ?_;conv=>whnf)
  exact⟨rfl,rfl⟩
 ·rename_i h
  exact absurd (congrArg Int.ofNat IV) h
set_option maxRecDepth 100000
def gT:Int->List Int->Bool
 |n,[]=>decide (n=0)
 |n,x::xs=>if n=0 then false else if x≠0/\x≠2 then false else gT (n+(x-1)) xs
theorem oy {l:List Int} {i:Nat} (h:i<l.length):l.drop i=l.getD i 0::l.drop (i+1):=by
 rw[List.drop_eq_getElem_cons h,gD,gL h]
 rfl
theorem A7 (l:List Int) (hl:l.length<=1000):aa Tryz.prog 113 [.sl 0 aD l] (fun u=>u= .bool (gT 1 l)):=by
 refine aa.intro ab ac Tryz.func113 rfl (by decide) ?_;(conv=>whnf)
 refine aR.loop (fun x:Nat×Int=>x.1<=l.length/\-1-x.1<=x.2/\x.2<=1+x.1/\gT 1 l=gT x.2 (l.drop x.1)) (fun x=>((.sl 0 aD l):: .top:: .top::(.int .i64 x.2)::(.int .i64 (x.1:Int))::T 31)) (fun _=>ah.ofL []) (fun x=>l.length-x.1) (0,1) (by simp) (bE.by_ [] [] 400 rfl trivial ai) ?_
 rintro⟨i,n⟩ ⟨hi,h1,h2,hs⟩
 dsimp only at hi h1 h2 hs
 refine bw ab ac _ _ _ _ ?_
 conv=>whnf
 repeat' first|(refine at_ ?_;conv=>whnf)|(refine ag (fun _=>?_) (fun _=>?_)<;>conv=>whnf)
 ·rename_i hlt h0
  dsimp only at hlt h0
  rw[hs,oy (by omega),gT,if_pos h0]
  exact⟨rfl,rfl⟩
 ·rename_i hlt h0 ha hb
  dsimp only at hlt h0
  rw[tN] at ha hb
  rw[hs,oy (by omega),gT,if_neg h0,if_pos ⟨ha,hb⟩]
  exact⟨rfl,rfl⟩
 ·rename_i hlt h0 ha hb
  dsimp only at hlt h0
  rw[tN] at ha hb
  have hb':l.getD i 0=2:=by simpa using hb
  refine⟨(i+1,n+(l.getD i 0-1)),(bE.by_ [] [] 400 rfl trivial ai),⟨by omega,by dsimp only;omega,by dsimp only;omega,?_⟩,Nat.sub_lt_sub_left (by dsimp only;omega) (by dsimp only;omega)⟩
  dsimp only
  rw[hs,oy (by omega),gT,if_neg h0,if_neg (by rw[hb'];decide)]
 ·rename_i hlt h0 ha
  dsimp only at hlt h0
  rw[tN] at ha
  have hb':l.getD i 0=0:=by simpa using ha
  refine⟨(i+1,n+(l.getD i 0-1)),(bE.by_ [] [] 400 rfl trivial ai),⟨by omega,by dsimp only;omega,by dsimp only;omega,?_⟩,Nat.sub_lt_sub_left (by dsimp only;omega) (by dsimp only;omega)⟩
  dsimp only
  rw[hs,oy (by omega),gT,if_neg h0,if_neg (by rw[hb'];decide)]
 ·rename_i hlt h0
  dsimp only at hlt h0
  rw[hs,List.drop_eq_nil_of_le (by omega),gT,decide_eq_true h0]
  exact⟨rfl,rfl⟩
 ·rename_i hlt h0
  dsimp only at hlt h0
  rw[hs,List.drop_eq_nil_of_le (by omega),gT,decide_eq_false h0]
  exact⟨rfl,rfl⟩
def zt:Nat->List (List Int)
 |0=>[[]]
 |n+1=>(zt n).map (0::·)++(zt n).map (2::·)
theorem A8:∀(l:List Int) (n:Int),gT n l=true->l∈zt l.length
 |[],_,_=>by simp[zt]
 |x::xs,n,h=>by
  rw[gT] at h
  split at h
  ·cases h
  ·split at h
   ·cases h
   ·rename_i hx
    have:=A8 xs _ h
    have hx:x=0\/x=2:=by omega
    simp only[zt,List.length_cons,List.mem_append,List.mem_map]
    rcases hx with rfl|rfl
    ·exact .inl ⟨xs,this,rfl⟩
    ·exact .inr ⟨xs,this,rfl⟩
theorem FU:((List.range 9).all fun k=>(zt k).all fun l=>!gT 1 l||(b7 k).contains l||k==0)=true:=by kernel_rfl
theorem A9:((List.range 9).all fun k=>(b7 k).all fun l=>gT 1 l&&l.length==k)=true:=by kernel_rfl
theorem FV {l:List Int} (h1:1<=l.length) (h8:l.length<=8):gT 1 l=decide (l∈b7 l.length):=by
 cases h:gT 1 l with
 |true=>
  have:=A8 l 1 h
  have k:=FU
  rw[List.all_eq_true] at k
  have k:=k l.length (by simp;omega)
  rw[List.all_eq_true] at k
  have k:=k l this
  simp only[h,Bool.not_true,Bool.false_or,Bool.or_eq_true,beq_iff_eq,List.contains_iff_mem] at k
  rcases k with k|k
  ·rw[decide_eq_true k]
  ·omega
 |false=>
  symm
  rw[decide_eq_false_iff_not]
  intro hm
  have k:=A9
  rw[List.all_eq_true] at k
  have k:=k l.length (by simp;omega)
  rw[List.all_eq_true] at k
  have k:=k l hm
  simp[h] at k
theorem Hr {k:Nat} (h:k<=8) {a:List Int} (ha:a∈b7 k):gT 1 a=true/\a.length=k:=by
 have e:=A9
 rw[List.all_eq_true] at e
 have e:=e k (by simp;omega)
 rw[List.all_eq_true] at e
 have e:=e a ha
 simpa using e
end Go.Proofs.YtblcpnmnibcbbaaGreatDoor
