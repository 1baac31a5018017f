import Derived.Test.YtokjgegkhlkopaaGreatDoorTab
set_option linter.unusedVariables false
set_option linter.unusedSimpArgs false
namespace Go.Proofs.YtokjgegkhlkopaaGreatDoor
def T (n:Nat):List AV:=List.replicate n .top
def cU (l:List Int):List AV:=[.sl 0 aD l]
def bE:List Int->List Int->Int
 |[],[]=>0
 |[],_::_=>-1
 |_::_,[]=>1
 |x::xs,y::ys=>if x<y then -1 else if y<x then 1 else bE xs ys
theorem tU {xs ys:List Int} {k:Nat} (h1:k<xs.length) (h2:k<ys.length):bE (xs.drop k) (ys.drop k)=if xs.getD k 0<ys.getD k 0 then -1 else if ys.getD k 0<xs.getD k 0 then 1 else bE (xs.drop (k+1)) (ys.drop (k+1)):=by
 rw[List.drop_eq_getElem_cons h1,List.drop_eq_getElem_cons h2]
 simp[bE,List.getD,h1,h2]
theorem nG {xs ys:List Int} {k:Nat} (h1:¬k<xs.length) (h2:k<ys.length):bE (xs.drop k) (ys.drop k)=-1:=by
 rw[List.drop_eq_nil_of_le (by omega),List.drop_eq_getElem_cons h2];rfl
theorem nH {xs ys:List Int} {k:Nat} (h1:k<xs.length) (h2:¬k<ys.length):bE (xs.drop k) (ys.drop k)=1:=by
 rw[(List.drop_eq_nil_of_le (by omega):ys.drop k=[]),List.drop_eq_getElem_cons h1];rfl
theorem nJ {xs ys:List Int} {k:Nat} (h1:¬k<xs.length) (h2:¬k<ys.length):bE (xs.drop k) (ys.drop k)=0:=by
 rw[List.drop_eq_nil_of_le (by omega),(List.drop_eq_nil_of_le (by omega):ys.drop k=[])];rfl
def iZ (x y:Int):Int:=if x<y then -1 else if y<x then 1 else 0
theorem JW {xs ys:List Int} {k:Nat} (h1:k<xs.length) (h2:k<ys.length):bE (xs.drop k) (ys.drop k)=if iZ (xs.getD k 0) (ys.getD k 0)≠0 then iZ (xs.getD k 0) (ys.getD k 0) else bE (xs.drop (k+1)) (ys.drop (k+1)):=by
 rw[tU h1 h2]
 unfold iZ
 by_cases a:xs.getD k 0<ys.getD k 0
 ·rw[if_pos a,if_pos a,if_pos (by decide)]
 ·by_cases b:ys.getD k 0<xs.getD k 0
  ·rw[if_neg a,if_pos b,if_neg a,if_pos b,if_pos (by decide)]
  ·rw[if_neg a,if_neg b,if_neg a,if_neg b,if_neg (by decide)]
theorem aj {a b:Int} (h:a=b):AV.int .i64 a= .int .i64 b:=by rw[h]
theorem pZ {a b:Bool} (h:a=b):AV.bool a= .bool b:=by rw[h]
set_option maxRecDepth 10000
theorem cO (xs ys:List Int) (hx:xs.length<=4611686018427387904):ae Tryz.prog 28 [.sl 0 aD xs, .sl 0 aD ys] (fun u=>u= .int .i64 (bE xs ys)):=by
 refine ae.intro ab ac Tryz.func28 rfl (by decide) ?_;(conv=>whnf)
 refine aE.loop (fun k:Nat=>k<=xs.length/\k<=ys.length/\bE xs ys=bE (xs.drop k) (ys.drop k)) (fun k=>.sl 0 aD xs:: .sl 0 aD ys:: .top:: .top:: .top:: .int .i64 (k:Int)::T 40) (fun _=>ai.ofL []) (fun k=>xs.length-k) 0 ⟨by omega,by omega,by simp⟩ (aM.by_ [] [] 100 rfl trivial ⟨rfl,rfl,rfl,trivial⟩) ?_
 rintro k ⟨hk1,hk2,hk3⟩
 refine aZ ab ac _ _ _ _ ?_
 conv=>whnf
 refine ah (fun h1=>?_) (fun h1=>?_)<;>conv=>whnf
 ·refine ah (fun h2=>?_) (fun h2=>?_)<;>conv=>whnf
  ·have hd:=tU (xs:=xs) (ys:=ys) (k:=k) (by omega) (by omega)
   rw[hd] at hk3
   repeat' first|(refine at_ ?_;conv=>whnf)|(refine ah (fun _=>?_) (fun _=>?_)<;>conv=>whnf)
   ·rename_i h
    refine⟨aj ?_,rfl⟩
    rw[hk3,if_pos (by simpa using h)]
   ·rename_i h h'
    refine⟨aj ?_,rfl⟩
    rw[hk3,if_neg (by simpa using h),if_pos (by simpa using h')]
   ·rename_i h h'
    refine⟨k+1,aM.by_ [] [] 100 rfl trivial ⟨rfl,rfl,rfl,trivial⟩,⟨by omega,by omega,?_⟩,Nat.sub_lt_sub_left (by omega) (by omega)⟩
    rw[hk3,if_neg (by simpa using h),if_neg (by simpa using h')]
  ·rw[nH (by omega) (by omega)] at hk3
   repeat' first|(refine at_ ?_;conv=>whnf)|(refine ah (fun _=>?_) (fun _=>?_)<;>conv=>whnf)
   exact⟨aj hk3.symm,rfl⟩
 ·by_cases h2:k<ys.length
  ·rw[nG (by omega) h2] at hk3
   repeat' first|(refine at_ ?_;conv=>whnf)|(refine ah (fun _=>?_) (fun _=>?_)<;>conv=>whnf)
   exact⟨aj hk3.symm,rfl⟩
  ·rw[nJ (by omega) h2] at hk3
   repeat' first|(refine at_ ?_;conv=>whnf)|(refine ah (fun _=>?_) (fun _=>?_)<;>conv=>whnf)
   exact⟨aj hk3.symm,rfl⟩
theorem w4 (xs ys:List Int) (hx:xs.length<=4611686018427387904):ae Tryz.prog 17 [.sl 0 aD xs, .sl 0 aD ys] (fun u=>u= .bool (decide (bE xs ys=0))):=by
 refine ae.intro ab ac Tryz.func17 rfl (by decide) ?_;(conv=>whnf)
 (refine oP (cO xs ys hx) ?_;conv=>whnf)
 repeat' first|(refine at_ ?_;conv=>whnf)|(refine ah (fun _=>?_) (fun _=>?_)<;>conv=>whnf)
 ·rename_i h;exact⟨pZ (by simpa using h),rfl⟩
 ·rename_i h;exact⟨pZ (by simpa using h),rfl⟩
theorem w5 (x:Int):ae Tryz.prog 171 [.int .i64 x] (fun u=>u= .bool false):=by
 refine ae.intro ab ac Tryz.func171 rfl (by decide) ?_;(conv=>whnf)
 repeat' first|(refine at_ ?_;conv=>whnf)|(refine ah (fun _=>?_) (fun _=>?_)<;>conv=>whnf)
 exact⟨rfl,rfl⟩
theorem zk (x y:Int):ae Tryz.prog 137 [.int .i64 x, .int .i64 y] (fun u=>u= .int .i64 (iZ x y)):=by
 refine ae.intro ab ac Tryz.func137 rfl (by decide) ?_;(conv=>whnf)
 (refine oP (w5 x) ?_;conv=>whnf)
 (refine oP (w5 y) ?_;conv=>whnf)
 repeat' first|(refine at_ ?_;conv=>whnf)|(refine ah (fun _=>?_) (fun _=>?_)<;>conv=>whnf)
 all_goals
  refine⟨aj ?_,rfl⟩
  unfold iZ
  simp[*]
theorem B6 (xs ys:List Int) (hx:xs.length<=4611686018427387904):ae Tryz.prog 113 [.sl 0 aD xs, .sl 0 aD ys] (fun u=>u= .int .i64 (bE xs ys)):=by
 refine ae.intro ab ac Tryz.func113 rfl (by decide) ?_;(conv=>whnf)
 refine aE.loop (fun k:Nat=>k<=xs.length/\k<=ys.length/\bE xs ys=bE (xs.drop k) (ys.drop k)) (fun k=>((.sl 0 aD xs)::(.sl 0 aD ys):: .top:: .top:: .top:: .top:: .top:: .top:: .top::(.sl 0 aD xs)::(.int .i64 (xs.length:Int))::(.int .i64 (k:Int))::T 24)) (fun _=>ai.ofL []) (fun k=>xs.length-k) 0 ⟨by omega,by omega,by simp⟩ (aM.by_ [] [] 400 rfl trivial aa) ?_
 rintro k ⟨hk1,hk2,hk3⟩
 refine aZ ab ac _ _ _ _ ?_
 conv=>whnf
 refine ah (fun h1=>?_) (fun h1=>?_)<;>conv=>whnf
 ·by_cases h2:k<ys.length
  ·rw[JW (by omega) h2] at hk3
   repeat' first|(refine at_ ?_;conv=>whnf)|(refine ah (fun _=>?_) (fun _=>?_)<;>conv=>whnf)
   (refine oP (zk _ _) ?_;conv=>whnf)
   repeat' first|(refine at_ ?_;conv=>whnf)|(refine ah (fun _=>?_) (fun _=>?_)<;>conv=>whnf)
   ·rename_i h
    exact⟨aj (by rw[hk3,if_pos (by simpa using h)];rfl),rfl⟩
   ·rename_i h
    refine⟨k+1,(aM.by_ [] [] 400 rfl trivial aa),⟨by omega,by omega,?_⟩,Nat.sub_lt_sub_left (by omega) (by omega)⟩
    rw[hk3,if_neg (by simpa using h)]
  ·rw[nH (by omega) (by omega)] at hk3
   repeat' first|(refine at_ ?_;conv=>whnf)|(refine ah (fun _=>?_) (fun _=>?_)<;>conv=>whnf)
   exact⟨aj hk3.symm,rfl⟩
 ·by_cases h2:k<ys.length
  ·rw[nG (by omega) h2] at hk3
   repeat' first|(refine at_ ?_;conv=>whnf)|(refine ah (fun _=>?_) (fun _=>?_)<;>conv=>whnf)
   exact⟨aj hk3.symm,rfl⟩
  ·rw[nJ (by omega) h2] at hk3
   repeat' first|(refine at_ ?_;conv=>whnf)|(refine ah (fun _=>?_) (fun _=>?_)<;>conv=>whnf)
   exact⟨aj hk3.symm,rfl⟩
theorem jj (xs ys:List Int) (hx:xs.length<=4611686018427387904):ae Tryz.prog 71 [.sl 0 aD xs, .sl 0 aD ys] (fun u=>u= .int .i64 (bE xs ys)):=by
 refine ae.intro ab ac Tryz.func71 rfl (by decide) ?_;(conv=>whnf)
 (refine oP (B6 xs ys hx) ?_;conv=>whnf)
 exact⟨rfl,rfl⟩
theorem IZ {α:Type} {d:α} {enc:α->List AV} {l l':List α} (h:l=l'):AV.sl d enc l=AV.sl d enc l':=by rw[h]
def mid {α:Type} (S:List α) (j:Nat) (x:α) (r:List α):List α:=S.take j++x::(S.drop j++r)
theorem tV {α:Type} {S:List α} {j:Nat} (x:α) (r:List α) (h0:0<j) (h1:j<=S.length):
  mid S j x r=S.take (j-1)++S[j-1]::x::(S.drop j++r)/\mid S (j-1) x r=S.take (j-1)++x::S[j-1]::(S.drop j++r):=by
 obtain⟨m,rfl⟩:∃m,j=m+1:=⟨j-1,by omega⟩
 simp only[Nat.add_sub_cancel]
 unfold mid
 have e1:S.take (m+1)=S.take m++[S[m]]:=List.take_succ_eq_append_getElem (by omega)
 have e2:S.drop m=S[m]::S.drop (m+1):=List.drop_eq_getElem_cons (by omega)
 constructor
 ·rw[e1,List.append_assoc];rfl
 ·rw[e2];rfl
theorem q' {α:Type} {S:List α} {j:Nat} (x:α) (r:List α):(mid S j x r).length=S.length+1+r.length:=by
 unfold mid;simp;omega
theorem JX {α:Type} {S:List α} {j:Nat} (x:α) (r:List α) (d:α) (h1:j<=S.length):(mid S j x r).getD j d=x:=by
 unfold mid
 rw[gD,List.getElem?_append_right (by simp;omega)]
 simp[show min j S.length=j from by omega]
theorem zl {α:Type} {S:List α} {j:Nat} (x:α) (r:List α) (d:α) (h0:0<j) (h1:j<=S.length):(mid S j x r).getD (j-1) d=S[j-1]:=by
 rw[(tV x r h0 h1).1,gD,List.getElem?_append_right (by simp;omega)]
 simp[show min (j-1) S.length=j-1 from by omega]
theorem Eb {α:Type} (A B:List α) (x y:α):(A++x::B).set A.length y=A++y::B:=by
 simp
theorem Ec {α:Type} {S:List α} {j:Nat} (x:α) (r:List α) (h0:0<j) (h1:j<=S.length):((mid S j x r).set j S[j-1]).set (j-1) x=mid S (j-1) x r:=by
 obtain⟨e1,e2⟩:=tV x r h0 h1
 rw[e1,e2]
 have hl:(S.take (j-1)).length=j-1:=by simp;omega
 have a1:(S.take (j-1)++S[j-1]::x::(S.drop j++r)).set j S[j-1]=S.take (j-1)++S[j-1]::S[j-1]::(S.drop j++r):=by
  have:=Eb (S.take (j-1)++[S[j-1]]) (S.drop j++r) x S[j-1]
  rw[List.length_append,hl] at this
  simp only[List.length_cons,List.length_nil,List.append_assoc,List.cons_append,List.nil_append] at this
  rw[show j-1+(0+1)=j from by omega] at this
  exact this
 rw[a1]
 have:=Eb (S.take (j-1)) (S[j-1]::(S.drop j++r)) S[j-1] x
 rw[hl] at this
 exact this
theorem Ed {α:Type} (S:List α) (j:Nat) (x:α) (r:List α):(mid S j x r).Perm (S++x::r):=by
 unfold mid
 have:(S++x::r)=S.take j++(S.drop j++x::r):=by rw[<-List.append_assoc,List.take_append_drop]
 rw[this]
 refine List.Perm.append_left _ ?_
 exact List.perm_middle.symm
structure Of (α:Type) (c:α->α->Int):Prop where
 anti:∀a b,c a b<0->c b a>0
 anti':∀a b,c a b>0->c b a<0
 trans:∀a b d,c a b<=0->c b d<=0->c a d<=0
def De {α:Type} (c:α->α->Int) (l:List α):Prop:=l.Pairwise fun a b=>c a b<=0
theorem ra {α:Type} {c:α->α->Int} (hc:Of α c) {S:List α} (hS:De c S) {j:Nat} (hj:j<=S.length) (x:α) (h1:∀s∈S.drop j,c x s<0) (h2:∀(h:0<j),¬c x (S[j-1]'(by omega))<0):De c (mid S j x []):=by
 unfold mid De
 have hsplit:S.take j++S.drop j=S:=List.take_append_drop j S
 unfold De at hS
 rw[<-hsplit,List.pairwise_append] at hS
 obtain⟨hA,hB,hAB⟩:=hS
 have hlast:∀a∈S.take j,c a x<=0:=by
  intro a ha
  by_cases h0:0<j
  ·have hx:=h2 h0
   have hlx:c S[j-1] x<=0:=by
    by_cases hh:c S[j-1] x<=0
    ·exact hh
    ·exact absurd (hc.anti' _ _ (by omega)) hx
   have e1:S.take j=S.take (j-1)++[S[j-1]]:=by
    obtain⟨m,rfl⟩:∃m,j=m+1:=⟨j-1,by omega⟩
    exact List.take_succ_eq_append_getElem (by omega)
   rw[e1] at ha hA
   rcases List.mem_append.1 ha with ha|ha
   ·rw[List.pairwise_append] at hA
    exact hc.trans _ _ _ (hA.2.2 a ha _ (by simp)) hlx
   ·simp at ha;subst ha;exact hlx
  ·have:j=0:=by omega
   subst this;simp at ha
 rw[List.pairwise_append]
 refine⟨hA,?_,?_⟩
 ·rw[List.append_nil,List.pairwise_cons]
  exact⟨fun s hs=>by have:=h1 s hs;omega,hB⟩
 ·intro a ha b hb
  rcases List.mem_cons.1 hb with rfl|hb
  ·exact hlast a ha
  ·rw[List.append_nil] at hb;exact hAB a ha b hb
theorem ln:Of (List Int) bE where
 anti:=by
  intro a
  induction a with
  |nil=>intro b h;cases b<;>simp_all [bE]
  |cons x xs ih=>
   intro b h
   cases b with
   |nil=>simp[bE] at h
   |cons y ys=>
    simp only[bE] at*
    by_cases a:x<y
    ·simp[a,show¬y<x from by omega]
    ·by_cases b:y<x
     ·simp[a,b] at h
     ·simp only[a,b,if_false] at*;exact ih ys h
 anti':=by
  intro a
  induction a with
  |nil=>intro b h;cases b<;>simp_all [bE]
  |cons x xs ih=>
   intro b h
   cases b with
   |nil=>simp[bE]
   |cons y ys=>
    simp only[bE] at*
    by_cases a:x<y
    ·simp[a] at h
    ·by_cases b:y<x
     ·simp[b]
     ·simp only[a,b,if_false] at*;exact ih ys h
 trans:=by
  intro a
  induction a with
  |nil=>intro b d _ h2;cases d<;>simp[bE]
  |cons x xs ih=>
   intro b d h1 h2
   cases b with
   |nil=>simp[bE] at h1
   |cons y ys=>
    cases d with
    |nil=>simp[bE] at h2
    |cons z zs=>
     simp only[bE] at*
     by_cases a1:x<y
     ·by_cases b1:y<z
      ·simp[show x<z from by omega]
      ·by_cases b2:z<y
       ·simp[b1,b2] at h2
       ·simp[show x<z from by omega]
     ·by_cases a2:y<x
      ·simp[a1,a2] at h1
      ·by_cases b1:y<z
       ·simp[show x<z from by omega]
       ·by_cases b2:z<y
        ·simp[b1,b2] at h2
        ·have e1:¬x<z:=by omega
         have e2:¬z<x:=by omega
         simp only[a1,a2,b1,b2,e1,e2,if_false] at*
         exact ih ys zs h1 h2
theorem ii:∀{a b:List Int},bE a b=0->a=b
 |[],[],_=>rfl
 |[],_::_,h=>by simp[bE] at h
 |_::_,[],h=>by simp[bE] at h
 |x::xs,y::ys,h=>by
  simp only[bE] at h
  by_cases a:x<y
  ·simp[a] at h
  ·by_cases b:y<x
   ·simp[a,b] at h
   ·simp only[a,b,if_false] at h
    rw[ii h,show x=y from by omega]
theorem tW:∀(a:List Int),bE a a=0
 |[]=>rfl
 |x::xs=>by simp[bE,tW xs]
set_option maxRecDepth 10000
def cJ (l:List (List Int)):aX:=.row 24 [] cU l
theorem jk {l l':List (List Int)} (h:l=l'):cJ l=cJ l':=by rw[h]
theorem Hc {α:Type} (S:List α) (x:α) (r:List α):mid S S.length x r=S++x::r:=by simp[mid]
theorem vn {α:Type} (S:List α) (j:Nat) (x:α) (r:List α):mid S j x r=mid S j x []++r:=by simp[mid]
theorem Hd (l:List (List Int)) (hn:l.length<=4611686018427387904) (hb:∀a∈l,a.length<=4611686018427387904):
  an Tryz.prog 161 [.row 0 l.length 1, .int .i64 0, .int .i64 (l.length:Int), .fn 71 []] (ai.ofL [(0,cJ l)])
   (fun u M'=>u= .tup []/\∃l',M' 0=some (cJ l')/\l'.Perm l/\De bE l'):=by
 refine an.intro ab ac [(0,cJ l)] Tryz.func161 rfl (by decide) ?_
 conv=>whnf
 repeat' first|(refine at_ ?_;conv=>whnf)|(refine ah (fun _=>?_) (fun _=>?_)<;>conv=>whnf)
 cases l with
 |nil=>
  refine aE.loop (fun _:Nat=>True) (fun _=>((.row 0 0 1):: .top::(.int .i64 0):: .top:: .top:: .top:: .top:: .top::(.int .i64 1)::T 44)) (fun _=>ai.ofL [(0,cJ [])]) (fun _=>0) 0 trivial (aM.by_ [(0, .old 0)] _ 400 rfl ⟨rfl,trivial⟩ (aa)) ?_
  intro k _
  refine aZ ab ac _ _ _ _ ?_
  conv=>whnf
  repeat' first|(refine at_ ?_;conv=>whnf)|(refine ah (fun _=>?_) (fun _=>?_)<;>conv=>whnf)
  exact⟨rfl,[],rfl,List.Perm.refl _,List.Pairwise.nil⟩
 |cons x0 l0=>
  refine aE.loop2 (fun S rest:List (List Int)=>(S++rest).Perm (x0::l0)/\De bE S/\0<S.length) (fun S _=>((.row 0 (x0::l0).length 1)::(.int .i64 0)::(.int .i64 ((x0::l0).length:Int))::(.fn 71 []):: .top:: .top:: .top:: .top::(.int .i64 (S.length:Int))::T 44)) (fun S rest=>ai.ofL [(0,cJ (S++rest))]) (fun _ rest=>rest.length) [x0] l0 ⟨List.Perm.refl _,List.pairwise_singleton _ _,by simp⟩ (aM.by_ [(0, .old 0)] _ 400 rfl ⟨rfl,trivial⟩ (aa)) ?_
  rintro S rest ⟨hp,hs,h0⟩
  have hlen:S.length+rest.length=(x0::l0).length:=by have:=hp.length_eq;simpa using this
  refine aZ ab ac _ _ _ _ ?_
  conv=>whnf
  cases rest with
  |nil=>
   simp only[List.length_nil] at hlen
   repeat' first|(refine at_ ?_;conv=>whnf)|(refine ah (fun _=>?_) (fun _=>?_)<;>conv=>whnf)
   rw[List.append_nil] at hp
   exact⟨rfl,S,by rw[List.append_nil];rfl,hp,hs⟩
  |cons x r=>
   have hbx:∀a∈S++x::r,a.length<=4611686018427387904:=fun a ha=>hb a (hp.mem_iff.1 ha)
   generalize hnn:(x0::l0).length=n at hlen hn⊢
   simp only[List.length_cons] at hlen
   refine tI ?_
   conv=>whnf
   refine aE.loop (fun j:Nat=>j<=S.length/\∀s∈S.drop j,bE x s<0) (fun j=>((.row 0 n 1)::(.int .i64 0)::(.int .i64 (n:Int))::(.fn 71 []):: .top:: .top:: .top:: .top::(.int .i64 (S.length:Int))::(.int .i64 (j:Int))::T 43)) (fun j=>ai.ofL [(0,cJ (mid S j x r))]) (fun j=>j) S.length ⟨Nat.le_refl _,by simp⟩ (aM.by_ [(0, .old 0)] _ 400 rfl ⟨jk (Hc S x r).symm,trivial⟩ (aa)) ?_
   rintro j ⟨hj,hgt⟩
   have hml:(mid S j x r).length=n:=by rw[q'];omega
   refine aZ ab ac _ _ _ _ ?_
   conv=>whnf
   refine IX (by kernel_rfl) ?_
   conv=>whnf
   have hml2:(mid S j x []).length=S.length+1:=by rw[q'];rfl
   have hp2:(mid S j x []++r).Perm (x0::l0):=by rw[<-vn];exact(Ed S j x r).trans hp
   have hx:∀(h:De bE (mid S j x [])),(mid S j x []++r).Perm (x0::l0)/\De bE (mid S j x [])/\0<(mid S j x []).length:=fun h=>⟨hp2,h,by omega⟩
   refine ah (fun h1=>?_) (fun h1=>?_)<;>conv=>whnf
   ·repeat' first|(refine at_ ?_;conv=>whnf)|(refine ah (fun _=>?_) (fun _=>?_)<;>conv=>whnf)
    have e1:=JX (j:=j) x r [] hj
    have e2:=zl (j:=j) x r [] (by omega) hj
    have e3:((j:Int)-1).toNat=j-1:=by omega
    simp only[tN,e3,e1,e2]
    (refine oC (jj x S[j-1] (hbx x (by simp))) ?_;conv=>whnf)
    repeat' first|(refine at_ ?_;conv=>whnf)|(refine ah (fun _=>?_) (fun _=>?_)<;>conv=>whnf)
    ·rename_i hc
     refine⟨j-1,aM.by_ [(0, .old 0)] _ 400 rfl ⟨jk ?_,trivial⟩ (aa),⟨by omega,?_⟩,Nat.sub_lt (by omega) (by omega)⟩
     ·simp only[tN,e3,e1,e2]
      exact Ec x r (by omega) hj
     ·have:S.drop (j-1)=S[j-1]::S.drop j:=by
       rw[List.drop_eq_getElem_cons (by omega)]
       congr 2;omega
      rw[this]
      intro s hs'
      rcases List.mem_cons.1 hs' with rfl|hs'
      ·exact hc
      ·exact hgt s hs'
    ·rename_i hc
     exact⟨mid S j x [],r,aM.by_ [(0, .old 0)] _ 400 rfl ⟨jk (vn S j x r),trivial⟩ (aa),hx (ra ln hs hj x hgt fun _=>hc),Nat.lt_succ_self _⟩
   ·repeat' first|(refine at_ ?_;conv=>whnf)|(refine ah (fun _=>?_) (fun _=>?_)<;>conv=>whnf)
    exact⟨mid S j x [],r,aM.by_ [(0, .old 0)] _ 400 rfl ⟨jk (vn S j x r),trivial⟩ (aa),hx (ra ln hs hj x hgt fun h=>absurd h (by omega)),Nat.lt_succ_self _⟩
set_option maxRecDepth 10000
theorem B7 (x:Int) (h0:0<=x) (h1:x<256):ae Tryz.prog 170 [.int .u64 x] (fun u=>∃n:Int,u= .int .i64 n):=by
 refine ae.intro ab ac Tryz.func170 rfl (by decide) ?_;(conv=>whnf)
 repeat' first|(refine at_ ?_;conv=>whnf)|(refine ah (fun _=>?_) (fun _=>?_)<;>conv=>whnf)
 refine d7 ⟨by omega,Int.lt_of_lt_of_le h1 (by decide)⟩ ?_
 conv=>whnf
 refine Ly trivial ?_
 conv=>whnf
 refine Ly trivial ?_
 conv=>whnf
 exact⟨⟨_,rfl⟩,rfl⟩
theorem He (x:Int) (h0:0<=x) (h1:x<256):ae Tryz.prog 136 [.int .u64 x] (fun u=>∃n:Int,u= .int .i64 n):=by
 refine ae.intro ab ac Tryz.func136 rfl (by decide) ?_;(conv=>whnf)
 repeat' first|(refine at_ ?_;conv=>whnf)|(refine ah (fun _=>?_) (fun _=>?_)<;>conv=>whnf)
 refine an.of_pure (n:=5) (B7 x h0 h1) rfl ?_
 rintro _ ⟨n,rfl⟩
 conv=>whnf
 exact⟨⟨_,rfl⟩,rfl⟩
theorem Ee (l:List (List Int)) (lim:Int) (hn:l.length<=12) (hb:∀a∈l,a.length<=4611686018427387904):
  an Tryz.prog 135 [.row 0 l.length 1, .int .i64 0, .int .i64 (l.length:Int), .int .i64 lim, .fn 71 []] (ai.ofL [(0,cJ l)])
   (fun u M'=>u= .tup []/\∃l',M' 0=some (cJ l')/\l'.Perm l/\De bE l'):=by
 refine an.intro ab ac [(0,cJ l)] Tryz.func135 rfl (by decide) ?_
 conv=>whnf
 repeat' first|(refine at_ ?_;conv=>whnf)|(refine ah (fun _=>?_) (fun _=>?_)<;>conv=>whnf)
 refine aE.loop (fun _:Nat=>True) (fun _=>((.row 0 l.length 1)::(.int .i64 0)::(.int .i64 (l.length:Int))::(.int .i64 lim)::(.fn 71 [])::T 143)) (fun _=>ai.ofL [(0,cJ l)]) (fun _=>0) 0 trivial (aM.by_ [(0, .old 0)] _ 400 rfl ⟨rfl,trivial⟩ (aa)) ?_
 intro k _
 refine aZ ab ac _ _ _ _ ?_
 conv=>whnf
 repeat' first|(refine at_ ?_;conv=>whnf)|(refine ah (fun _=>?_) (fun _=>?_)<;>conv=>whnf)
 refine an.call [(0, .old 0)] [(0,cJ l)] 100 rfl ⟨rfl,trivial⟩ (aa) (Hd l (by omega) hb) ?_
 rintro u M' ⟨rfl,l',hM,hp,hs⟩
 refine⟨[(0, .old 0)],[(0,cJ l')], .tup [],rfl,⟨?_,trivial⟩,trivial,?_⟩
 ·show ie _ _ (M' 0) _
  rw[hM];exact rfl
 ·conv=>whnf
  exact⟨rfl,l',rfl,hp,hs⟩
theorem Ef (l:List (List Int)) (hn:l.length<=12) (hb:∀a∈l,a.length<=4611686018427387904):
  an Tryz.prog 110 [.row 0 l.length 1, .fn 71 []] (ai.ofL [(0,cJ l)])
   (fun u M'=>u= .tup []/\∃l',M' 0=some (cJ l')/\l'.Perm l/\De bE l'):=by
 refine an.intro ab ac [(0,cJ l)] Tryz.func110 rfl (by decide) ?_
 conv=>whnf
 repeat' first|(refine at_ ?_;conv=>whnf)|(refine ah (fun _=>?_) (fun _=>?_)<;>conv=>whnf)
 refine an.of_pure (n:=5) (He l.length (by omega) (by omega)) rfl ?_
 rintro _ ⟨lim,rfl⟩
 conv=>whnf
 refine an.call [(0, .old 0)] [(0,cJ l)] 100 rfl ⟨rfl,trivial⟩ (aa) (Ee l lim hn hb) ?_
 rintro u M' ⟨rfl,l',hM,hp,hs⟩
 refine⟨[(0, .old 0)],[(0,cJ l')], .tup [],rfl,⟨?_,trivial⟩,trivial,?_⟩
 ·show ie _ _ (M' 0) _
  rw[hM];exact rfl
 ·conv=>whnf
  exact⟨rfl,l',rfl,hp,hs⟩
set_option maxRecDepth 10000
theorem JY (xs ys:List Int) (hx:xs.length<=4611686018427387904):ae Tryz.prog 112 [.sl 0 aD xs, .sl 0 aD ys, .pd [.fn 71 []]] (fun u=>u= .bool (decide (bE xs ys=0))):=by
 refine ae.intro ab ac Tryz.func112 rfl (by decide) ?_;(conv=>whnf)
 (refine oP (jj xs ys hx) ?_;conv=>whnf)
 repeat' first|(refine at_ ?_;conv=>whnf)|(refine ah (fun _=>?_) (fun _=>?_)<;>conv=>whnf)
 ·rename_i h;exact⟨pZ (by simpa using h),rfl⟩
 ·rename_i h;exact⟨pZ (by simpa using h),rfl⟩
theorem w6 (l:List (List Int)) (hn:l.length<=4611686018427387904) (hb:∀a∈l,a.length<=4611686018427387904) (hd:∀i,i+1<l.length->bE (l.getD (i+1) []) (l.getD i [])≠0):
  an Tryz.prog 111 [.row 0 l.length 1, .fn 112 [.pd [.fn 71 []]]] (ai.ofL [(0,cJ l)])
   (fun u M'=>u= .row 0 l.length 1/\M' 0=some (cJ l)):=by
 refine an.intro ab ac [(0,cJ l)] Tryz.func111 rfl (by decide) ?_
 conv=>whnf
 repeat' first|(refine at_ ?_;conv=>whnf)|(refine ah (fun _=>?_) (fun _=>?_)<;>conv=>whnf)
 ·exact⟨rfl,rfl⟩
 ·refine aE.loop (fun i:Nat=>1<=i/\i<=l.length) (fun i=>((.row 0 l.length 1)::(.fn 112 [.pd [.fn 71 []]]):: .top:: .top:: .top::(.int .i64 (i:Int))::T 60)) (fun _=>ai.ofL [(0,cJ l)]) (fun i=>l.length-i) 1 ⟨by omega,by omega⟩ (aM.by_ [(0, .old 0)] _ 400 rfl ⟨rfl,trivial⟩ (aa)) ?_
  rintro i ⟨h1,h2⟩
  refine aZ ab ac _ _ _ _ ?_
  conv=>whnf
  repeat' first|(refine at_ ?_;conv=>whnf)|(refine ah (fun _=>?_) (fun _=>?_)<;>conv=>whnf)
  ·have e3:((i:Int)-1).toNat=i-1:=by omega
   have hh:=hd (i-1) (by omega)
   rw[show i-1+1=i from by omega] at hh
   have hi:l.getD i []∈l:=List.mem_of_getElem? (cr (d:=[]) (l:=l) (n:=i) (by omega))
   simp only[tN,e3]
   refine u3 5 (JY (l.getD i []) (l.getD (i-1) []) (hb _ hi)) rfl ⟨_,rfl⟩ ?_
   rintro _ rfl
   rw[decide_eq_false hh]
   conv=>whnf
   repeat' first|(refine at_ ?_;conv=>whnf)|(refine ah (fun _=>?_) (fun _=>?_)<;>conv=>whnf)
   exact⟨i+1,aM.by_ [(0, .old 0)] _ 400 rfl ⟨rfl,trivial⟩ (aa),⟨by omega,by omega⟩,Nat.sub_lt_sub_left (by omega) (by omega)⟩
  ·exact⟨rfl,rfl⟩
def GA (l:List (List Int)):Prop:=l.Pairwise fun a b=>bE a b<0
theorem JZ {l l':List (List Int)} (hp:l'.Perm l) (hs:De bE l') (hd:l.Nodup):GA l':=by
 have hd':l'.Nodup:=hp.nodup_iff.2 hd
 unfold GA
 unfold De at hs
 refine(hs.and hd').imp fun{a b} h=>?_
 have hne:bE a b≠0:=fun e=>h.2 (ii e)
 have:=h.1
 omega
theorem Hf {l:List (List Int)} (h:GA l) (i:Nat) (hi:i+1<l.length):bE (l.getD (i+1) []) (l.getD i [])≠0:=by
 have h1:=List.pairwise_iff_getElem.1 h i (i+1) (by omega) hi (by omega)
 have e1:l.getD (i+1) []=l[i+1]:=by simp[List.getD,hi]
 have e2:l.getD i []=l[i]:=by simp[List.getD,show i<l.length from by omega]
 rw[e1,e2]
 have:=ln.anti _ _ h1
 omega
theorem L6 (l:List (List Int)) (hn:l.length<=12) (hb:∀a∈l,a.length<=4611686018427387904) (hd:l.Nodup):
  ae Tryz.prog 70 [.sl [] cU l, .fn 71 []] (fun u=>∃l',u= .sl [] cU l'/\l'.Perm l/\GA l'):=by
 refine ae.intro ab ac Tryz.func70 rfl (by decide) ?_;(conv=>whnf)
 repeat' first|(refine at_ ?_;conv=>whnf)|(refine ah (fun _=>?_) (fun _=>?_)<;>conv=>whnf)
 refine an.call [(0, .old 7)] [(0,cJ l)] 100 rfl ⟨rfl,trivial⟩ (aa) (Ef l hn hb) ?_
 rintro u M' ⟨rfl,l',hM,hp,hs⟩
 have hlen:=hp.length_eq
 refine⟨[(7, .old 0)],[(7,cJ l')], .tup [],rfl,⟨?_,trivial⟩,trivial,?_⟩
 ·show ie _ _ (M' 0) _
  rw[hM];exact rfl
 have ha:=JZ hp hs hd
 rw[<-hlen]
 conv=>whnf
 refine an.call [(0, .old 7)] [(0,cJ l')] 100 rfl ⟨rfl,trivial⟩ (aa) (w6 l' (by omega) (fun a h=>hb a (hp.mem_iff.1 h)) (Hf ha)) ?_
 rintro u M' ⟨rfl,hM⟩
 refine⟨[(7, .old 0)],[(7,cJ l')], .row 7 l'.length 1,rfl,⟨?_,trivial⟩,rfl,?_⟩
 ·show ie _ _ (M' 0) _
  rw[hM];exact rfl
 conv=>whnf
 exact⟨⟨l',rfl,hp,ha⟩,rfl⟩
set_option maxRecDepth 10000
def ci:Nat->List (List Int)
 |1=>[[0]]
 |3=>[[2,0,0]]
 |5=>[[2,0,2,0,0],[2,2,0,0,0]]
 |7=>[[2,0,2,0,2,0,0],[2,0,2,2,0,0,0],[2,2,0,0,2,0,0],[2,2,0,2,0,0,0],[2,2,2,0,0,0,0]]
 |_=>[]
def fQ (A B:List (List Int)):List (List Int):=A.flatMap fun a=>B.map fun b=>2::(a++b)
def lq (n i:Nat):List (List Int):=(List.range i).flatMap fun t=>fQ (ci (2*t+1)) (ci (n-1-(2*t+1)))
theorem oU (n i:Nat):lq n (i+1)=lq n i++fQ (ci (2*i+1)) (ci (n-1-(2*i+1))):=by
 unfold lq;rw[List.range_succ,List.flatMap_append];simp
theorem rb (A B:List (List Int)) (p:Nat) (h:p<A.length):fQ (A.take (p+1)) B=fQ (A.take p) B++B.map fun b=>2::(A.getD p []++b):=by
 unfold fQ
 rw[List.take_succ_eq_append_getElem h,List.flatMap_append]
 simp[List.getD,h]
theorem map_take (B:List (List Int)) (f:List Int->List Int) (q:Nat) (h:q<B.length):(B.take (q+1)).map f=(B.take q).map f++[f (B.getD q [])]:=by
 rw[List.take_succ_eq_append_getElem h,List.map_append]
 have:B.getD q []=B[q]:=by simp[List.getD,h]
 rw[this];rfl
theorem Eg:∀n∈List.range 9,(ci n).length<=5/\∀a∈ci n,a.length<=8:=by decide
theorem fR {n:Nat} (h:n<=8):(ci n).length<=5/\∀a∈ci n,a.length<=8:=Eg n (List.mem_range.2 (by omega))
theorem oV (A B:List (List Int)):(fQ A B).length=A.length*B.length:=by
 unfold fQ
 induction A with
 |nil=>simp
 |cons a A ih=>rw[List.flatMap_cons,List.length_append,ih];simp[Nat.add_mul,Nat.add_comm]
theorem rc {n:Nat} (hn:n<=8):∀i:Nat,2*i<=n->(lq n i).length<=25*i
 |0,_=>by simp[lq]
 |i+1,h=>by
  rw[oU,List.length_append,oV]
  have h1:=rc hn i (by omega)
  have h2:=(fR (n:=2*i+1) (by omega)).1
  have h3:=(fR (n:=n-1-(2*i+1)) (by omega)).1
  have h4:(ci (2*i+1)).length*(ci (n-1-(2*i+1))).length<=5*5:=Nat.mul_le_mul h2 h3
  omega
theorem re:∀{l l':List (List Int)},GA l->GA l'->l.Perm l'->l=l'
 |[],l',_,_,hp=>(List.nil_perm.1 hp).symm
 |a::l,[],_,_,hp=>by have:=hp.length_eq;simp at this
 |a::l,b::l',h,h',hp=>by
  have hh:=List.pairwise_cons.1 h
  have hh':=List.pairwise_cons.1 h'
  have hab:a=b:=by
   have h1:a∈b::l':=hp.mem_iff.1 (by simp)
   have h2:b∈a::l:=hp.mem_iff.2 (by simp)
   rcases List.mem_cons.1 h1 with e|h1
   ·exact e
   ·rcases List.mem_cons.1 h2 with e|h2
    ·exact e.symm
    ·have:=hh.1 b h2
     have:=hh'.1 a h1
     have:=ln.anti _ _ (hh.1 b h2)
     omega
  subst hab
  rw[re hh.2 hh'.2 (List.Perm.cons_inv hp)]
instance (l:List (List Int)):Decidable (GA l):=inferInstanceAs (Decidable (List.Pairwise _ _))
theorem nK:∀m∈[1,2,3],GA (ci (2*m+1))/\(ci (2*m+1)).Perm (lq (2*m+1) m)/\(lq (2*m+1) m).Nodup/\(lq (2*m+1) m).length<=12/\∀a∈lq (2*m+1) m,a.length<=8:=by decide
theorem zm (n:Int) (h:n.tmod 2=0):ae Tryz.prog 39 [.int .i64 n] (fun u=>u= .nilsl):=by
 refine ae.intro ab ac Tryz.func39 rfl (by decide) ?_;(conv=>whnf)
 repeat' first|(refine at_ ?_;conv=>whnf)|(refine ah (fun _=>?_) (fun _=>?_)<;>conv=>whnf)
 ·exact⟨rfl,rfl⟩
 all_goals exact absurd h (by assumption)
theorem tX:∀m:Nat,m<=3->ae Tryz.prog 39 [.int .i64 ((2*m+1:Nat):Int)] (fun u=>u= .sl [] cU (ci (2*m+1))):=by
 intro m
 induction m using Nat.strongRecOn with
 |_ m ih=>
  intro hm
  have hodd:((2*m+1:Nat):Int).tmod 2=1:=by
   rw[Int.tmod_eq_emod_of_nonneg (by omega)];omega
  refine ae.intro ab ac Tryz.func39 rfl (by decide) ?_;(conv=>whnf)
  refine d7 (by decide) ?_
  conv=>whnf
  refine eX (by rw[hodd];decide) ?_
  conv=>whnf
  by_cases h0:m=0
  ·subst h0
   repeat' first|(refine at_ ?_;conv=>whnf)|(refine ah (fun _=>?_) (fun _=>?_)<;>conv=>whnf)
   refine cA [] cU [[0]] rfl ?_
   conv=>whnf
   exact⟨rfl,rfl⟩
  ·repeat' first|(refine at_ ?_;conv=>whnf)|(refine ah (fun _=>?_) (fun _=>?_)<;>conv=>whnf)
   refine aE.loop (fun i:Nat=>i<=m) (fun i=>((.int .i64 ((2*m+1:Nat):Int)):: .top:: .top::(.row 103 (lq (2*m+1) i).length 1)::(.int .i64 ((2*i+1:Nat):Int))::T 46)) (fun i=>ai.ofL [(103,cJ (lq (2*m+1) i))]) (fun i=>m-i) 0 (by omega) (aM.by_ [(103, .nil 1)] _ 400 rfl ⟨rfl,trivial⟩ (aa)) ?_
   intro i hi
   refine aZ ab ac _ _ _ _ ?_
   conv=>whnf
   repeat' first|(refine at_ ?_;conv=>whnf)|(refine ah (fun _=>?_) (fun _=>?_)<;>conv=>whnf)
   ·(refine oP (ih i (by omega) (by omega)) ?_;conv=>whnf)
    have hA:=fR (n:=2*i+1) (by omega)
    have hB:=fR (n:=2*(m-1-i)+1) (by omega)
    have eB:2*m+1-1-(2*i+1)=2*(m-1-i)+1:=by omega
    have hsucc:=oU (2*m+1) i
    have hpl:=rc (n:=2*m+1) (by omega) i (by omega)
    rw[eB] at hsucc
    have ihB:=ih (m-1-i) (by omega) (by omega)
    have eN:((2*m+1:Nat):Int)-1-((2*i+1:Nat):Int)=((2*(m-1-i)+1:Nat):Int):=by omega
    generalize ci (2*i+1)=A at hA hsucc⊢
    generalize ci (2*(m-1-i)+1)=B at hB hsucc ihB
    generalize lq (2*m+1) i=out at hsucc hpl⊢
    refine aE.loop (fun p:Nat=>p<=A.length) (fun p=>((.int .i64 ((2*m+1:Nat):Int)):: .top:: .top::(.row 103 (out++fQ (A.take p) B).length 1)::(.int .i64 ((2*i+1:Nat):Int)):: .top:: .top:: .top:: .top:: .top:: .top:: .top:: .top:: .top:: .top:: .top:: .top:: .top:: .top:: .top:: .top:: .top:: .top::(.sl [] cU A)::(.int .i64 (A.length:Int))::(.int .i64 (p:Int))::T 25)) (fun p=>ai.ofL [(103,cJ (out++fQ (A.take p) B))]) (fun p=>A.length-p) 0 (by omega) (aM.by_ [(103, .old 103)] _ 400 rfl ⟨jk (by simp[fQ]),trivial⟩ (by simp only[List.take_zero,fQ,List.flatMap_nil,List.append_nil];repeat' (first|exact True.intro|exact rfl|(refine And.intro ?_ ?_)|((conv=>whnf);omega)|((conv=>whnf);simp only[List.length_append,List.length_cons,List.length_nil];done)|((conv=>whnf);simp only[List.length_append,List.length_cons,List.length_nil];omega)))) ?_
    intro p hp
    refine aZ ab ac _ _ _ _ ?_
    conv=>whnf
    repeat' first|(refine at_ ?_;conv=>whnf)|(refine ah (fun _=>?_) (fun _=>?_)<;>conv=>whnf)
    ·rw[eN]
     (refine oP (ihB) ?_;conv=>whnf)
     have hct:=rb A B p (by omega)
     have hcl:=oV (A.take p) B
     have hcl2:(A.take p).length*B.length<=5*5:=Nat.mul_le_mul (by simp;omega) hB.1
     have hal:(A.getD p []).length<=8:=hA.2 _ (List.mem_of_getElem? (cr (d:=[]) (l:=A) (n:=p) (by omega)))
     simp only[tN]
     generalize A.getD p []=a at hct hal⊢
     generalize fQ (A.take p) B=base at hct hcl⊢
     refine aE.loop (fun q:Nat=>q<=B.length) (fun q=>((.int .i64 ((2*m+1:Nat):Int)):: .top:: .top::(.row 103 (out++base++(B.take q).map fun b=>2::(a++b)).length 1)::(.int .i64 ((2*i+1:Nat):Int)):: .top::(.sl 0 aD a):: .top:: .top:: .top:: .top:: .top:: .top:: .top:: .top:: .top:: .top:: .top:: .top:: .top:: .top:: .top:: .top::(.sl [] cU A)::(.int .i64 (A.length:Int))::(.int .i64 (p:Int)):: .top:: .top:: .top:: .top:: .top:: .top:: .top::(.sl [] cU B)::(.int .i64 (B.length:Int))::(.int .i64 (q:Int))::T 15)) (fun q=>ai.ofL [(103,cJ (out++base++(B.take q).map fun b=>2::(a++b)))]) (fun q=>B.length-q) 0 (by omega) (aM.by_ [(103, .old 103)] _ 400 rfl ⟨jk (by simp),trivial⟩ (by simp only[List.take_zero,List.map_nil,List.append_nil];repeat' (first|exact True.intro|exact rfl|(refine And.intro ?_ ?_)|((conv=>whnf);omega)|((conv=>whnf);simp only[List.length_append,List.length_cons,List.length_nil];done)|((conv=>whnf);simp only[List.length_append,List.length_cons,List.length_nil];omega)))) ?_
     intro q hq
     refine aZ ab ac _ _ _ _ ?_
     conv=>whnf
     repeat' first|(refine at_ ?_;conv=>whnf)|(refine ah (fun _=>?_) (fun _=>?_)<;>conv=>whnf)
     ·have hbl:(B.getD q []).length<=8:=hB.2 _ (List.mem_of_getElem? (cr (d:=[]) (l:=B) (n:=q) (by omega)))
      have hmt:=map_take B (fun b=>2::(a++b)) q (by omega)
      have hl3:(out++base++(B.take q).map fun b=>2::(a++b)).length<=200:=by
       simp only[List.length_append,List.length_map,List.length_take];omega
      simp only[tN]
      generalize B.getD q []=b at hmt hbl⊢
      generalize hX:(out++base++(B.take q).map fun b=>2::(a++b))=X at hl3⊢
      repeat' first|(refine at_ ?_;conv=>whnf)|(refine ah (fun _=>?_) (fun _=>?_)<;>conv=>whnf)
      refine cA [] cU [[2]++a++b] rfl ?_
      conv=>whnf
      repeat' first|(refine at_ ?_;conv=>whnf)|(refine ah (fun _=>?_) (fun _=>?_)<;>conv=>whnf)
      have hq1:(out++base++(B.take (q+1)).map fun b=>2::(a++b))=X++[[2]++a++b]:=by rw[hmt,<-hX];simp
      refine⟨q+1,?_,by omega,Nat.sub_lt_sub_left (by omega) (by omega)⟩
      simp only[hq1]
      exact aM.by_ [(103, .old 46)] _ 400 rfl ⟨rfl,trivial⟩ (aa)
     ·have hq2:q=B.length:=by omega
      have hp1:out++base++((B.take q).map fun b=>2::(a++b))=out++fQ (A.take (p+1)) B:=by
       rw[hct,hq2,List.take_length,List.append_assoc]
      rw[hp1]
      refine⟨p+1,?_,by omega,Nat.sub_lt_sub_left (by omega) (by omega)⟩
      exact aM.by_ [(103, .old 103)] _ 400 rfl ⟨rfl,trivial⟩ (aa)
    ·have hp2:p=A.length:=by omega
     rw[hp2,List.take_length,<-hsucc]
     refine⟨i+1,?_,by omega,Nat.sub_lt_sub_left (by omega) (by omega)⟩
     exact aM.by_ [(103, .old 103)] _ 400 rfl ⟨rfl,trivial⟩ (aa)
   ·obtain rfl:i=m:=by omega
    have hsh:=nK i (by simp;omega)
    refine an.hand 103 rfl ?_
    refine an.of_pure (n:=5) (L6 (lq (2*i+1) i) hsh.2.2.2.1 (fun a ha=>by have:=hsh.2.2.2.2 a ha;omega) hsh.2.2.1) rfl ?_
    rintro _ ⟨l',rfl,hp,ha⟩
    conv=>whnf
    rw[re ha hsh.1 (hp.trans hsh.2.1.symm)]
    exact⟨rfl,rfl⟩
set_option maxRecDepth 10000
set_option maxHeartbeats 2000000
theorem ae.sub {P:Program} {f:FuncId} {args:List AV} {R R':AV->Prop} (h:ae P f args R) (hr:∀u,R u->∃u',R' u'/\mC [] 20 u u'/\bX 5 u'=true):ae P f args R':=by
 rw[eM] at*
 refine⟨h.1,fun S F vs w h0 h1 h2 h3 hv=>(h.2 S F vs w h0 h1 h2 h3 hv).mono ?_⟩
 rintro e w' ⟨v,u,S',a,b,c,d,e',f',g,hw⟩
 obtain⟨u',hu',hav,hp⟩:=hr u b
 have:=(jv (S:=S') (ρ:=fun _=>none) (lm:=[]) 20).1 u u' v hav (.p g)
 exact⟨v,u',S',a,hu',c,d,e',f',jI 5 hp this,hw⟩
theorem B8:∀m∈[1,2,3],lq (2*m+1) m=ci (2*m+1):=by decide
theorem vo:∀m:Nat,m<=3->ae Tryz.prog 47 [.int .i64 ((2*m+1:Nat):Int)] (fun u=>u= .sl [] cU (ci (2*m+1))):=by
 intro m
 induction m using Nat.strongRecOn with
 |_ m ih=>
  intro hm
  refine ae.intro ab ac Tryz.func47 rfl (by decide) ?_;(conv=>whnf)
  by_cases h0:m=0
  ·subst h0
   repeat' first|(refine at_ ?_;conv=>whnf)|(refine ah (fun _=>?_) (fun _=>?_)<;>conv=>whnf)
   refine cA [] cU [[0]] rfl ?_
   conv=>whnf
   exact⟨rfl,rfl⟩
  ·repeat' first|(refine at_ ?_;conv=>whnf)|(refine ah (fun _=>?_) (fun _=>?_)<;>conv=>whnf)
   refine aE.loop (fun i:Nat=>i<=m) (fun i=>((.int .i64 ((2*m+1:Nat):Int)):: .top:: .top::(.row 103 (lq (2*m+1) i).length 1)::(.int .i64 ((2*i+1:Nat):Int))::T 50)) (fun i=>ai.ofL [(103,cJ (lq (2*m+1) i))]) (fun i=>m-i) 0 (by omega) (aM.by_ [(103, .nil 1)] _ 400 rfl ⟨rfl,trivial⟩ (aa)) ?_
   intro i hi
   refine aZ ab ac _ _ _ _ ?_
   conv=>whnf
   repeat' first|(refine at_ ?_;conv=>whnf)|(refine ah (fun _=>?_) (fun _=>?_)<;>conv=>whnf)
   ·(refine oP (ih i (by omega) (by omega)) ?_;conv=>whnf)
    repeat' first|(refine at_ ?_;conv=>whnf)|(refine ah (fun _=>?_) (fun _=>?_)<;>conv=>whnf)
    have hA:=fR (n:=2*i+1) (by omega)
    have hB:=fR (n:=2*(m-1-i)+1) (by omega)
    have eB:2*m+1-1-(2*i+1)=2*(m-1-i)+1:=by omega
    have hsucc:=oU (2*m+1) i
    have hpl:=rc (n:=2*m+1) (by omega) i (by omega)
    rw[eB] at hsucc
    have ihB:=ih (m-1-i) (by omega) (by omega)
    have eN:((2*m+1:Nat):Int)-1-((2*i+1:Nat):Int)=((2*(m-1-i)+1:Nat):Int):=by omega
    rw[eN]
    (refine oP (ihB) ?_;conv=>whnf)
    generalize ci (2*i+1)=A at hA hsucc⊢
    generalize ci (2*(m-1-i)+1)=B at hB hsucc⊢
    generalize lq (2*m+1) i=out at hsucc hpl⊢
    refine aE.loop (fun p:Nat=>p<=A.length) (fun p=>((.int .i64 ((2*m+1:Nat):Int)):: .top:: .top::(.row 103 (out++fQ (A.take p) B).length 1)::(.int .i64 ((2*i+1:Nat):Int))::(.sl [] cU A)::(.sl [] cU B)::(.int .i64 (p:Int))::T 47)) (fun p=>ai.ofL [(103,cJ (out++fQ (A.take p) B))]) (fun p=>A.length-p) 0 (by omega) (aM.by_ [(103, .old 103)] _ 400 rfl ⟨jk (by simp[fQ]),trivial⟩ (by simp only[List.take_zero,fQ,List.flatMap_nil,List.append_nil];repeat' (first|exact True.intro|exact rfl|(refine And.intro ?_ ?_)|((conv=>whnf);omega)|((conv=>whnf);simp only[List.length_append,List.length_cons,List.length_nil];done)|((conv=>whnf);simp only[List.length_append,List.length_cons,List.length_nil];omega)))) ?_
    intro p hp
    refine aZ ab ac _ _ _ _ ?_
    conv=>whnf
    repeat' first|(refine at_ ?_;conv=>whnf)|(refine ah (fun _=>?_) (fun _=>?_)<;>conv=>whnf)
    ·have hct:=rb A B p (by omega)
     have hcl:=oV (A.take p) B
     have hcl2:(A.take p).length*B.length<=5*5:=Nat.mul_le_mul (by simp;omega) hB.1
     have hal:(A.getD p []).length<=8:=hA.2 _ (List.mem_of_getElem? (cr (d:=[]) (l:=A) (n:=p) (by omega)))
     generalize fQ (A.take p) B=base at hct hcl⊢
     refine aE.loop (fun q:Nat=>q<=B.length) (fun q=>((.int .i64 ((2*m+1:Nat):Int)):: .top:: .top::(.row 103 (out++base++(B.take q).map fun b=>2::(A.getD p []++b)).length 1)::(.int .i64 ((2*i+1:Nat):Int))::(.sl [] cU A)::(.sl [] cU B)::(.int .i64 (p:Int))::(.int .i64 (q:Int))::T 46)) (fun q=>ai.ofL [(103,cJ (out++base++(B.take q).map fun b=>2::(A.getD p []++b)))]) (fun q=>B.length-q) 0 (by omega) (aM.by_ [(103, .old 103)] _ 400 rfl ⟨jk (by simp),trivial⟩ (by simp only[List.take_zero,List.map_nil,List.append_nil];repeat' (first|exact True.intro|exact rfl|(refine And.intro ?_ ?_)|((conv=>whnf);omega)|((conv=>whnf);simp only[List.length_append,List.length_cons,List.length_nil];done)|((conv=>whnf);simp only[List.length_append,List.length_cons,List.length_nil];omega)))) ?_
     intro q hq
     refine aZ ab ac _ _ _ _ ?_
     conv=>whnf
     refine ah (fun h3=>?_) (fun h3=>?_)<;>conv=>whnf
     ·have hbl:(B.getD q []).length<=8:=hB.2 _ (List.mem_of_getElem? (cr (d:=[]) (l:=B) (n:=q) (by omega)))
      have hmt:=map_take B (fun b=>2::(A.getD p []++b)) q (by omega)
      have hl3:(out++base++(B.take q).map fun b=>2::(A.getD p []++b)).length<=200:=by
       simp only[List.length_append,List.length_map,List.length_take];omega
      generalize hX:(out++base++(B.take q).map fun b=>2::(A.getD p []++b))=X at hl3⊢
      refine nI ?_
      conv=>whnf
      simp only[tN]
      repeat' first|(refine at_ ?_;conv=>whnf)|(refine ah (fun _=>?_) (fun _=>?_)<;>conv=>whnf)
      simp only[tN]
      repeat' first|(refine at_ ?_;conv=>whnf)|(refine ah (fun _=>?_) (fun _=>?_)<;>conv=>whnf)
      refine cA [] cU [[2]++A.getD p []++B.getD q []] rfl ?_
      conv=>whnf
      repeat' first|(refine at_ ?_;conv=>whnf)|(refine ah (fun _=>?_) (fun _=>?_)<;>conv=>whnf)
      have hq1:(out++base++(B.take (q+1)).map fun b=>2::(A.getD p []++b))=X++[[2]++A.getD p []++B.getD q []]:=by rw[hmt,<-hX];simp
      refine⟨q+1,?_,by omega,Nat.sub_lt_sub_left (by omega) (by omega)⟩
      simp only[hq1]
      exact aM.by_ [(103, .old 53)] _ 400 rfl ⟨rfl,trivial⟩ (aa)
     ·have hq2:q=B.length:=by omega
      have hp1:out++base++((B.take q).map fun b=>2::(A.getD p []++b))=out++fQ (A.take (p+1)) B:=by
       rw[hct,hq2,List.take_length,List.append_assoc]
      rw[hp1]
      repeat' first|(refine at_ ?_;conv=>whnf)|(refine ah (fun _=>?_) (fun _=>?_)<;>conv=>whnf)
      refine⟨p+1,?_,by omega,Nat.sub_lt_sub_left (by omega) (by omega)⟩
      exact aM.by_ [(103, .old 103)] _ 400 rfl ⟨rfl,trivial⟩ (aa)
    ·have hp2:p=A.length:=by omega
     rw[hp2,List.take_length,<-hsucc]
     refine⟨i+1,?_,by omega,Nat.sub_lt_sub_left (by omega) (by omega)⟩
     exact aM.by_ [(103, .old 103)] _ 400 rfl ⟨rfl,trivial⟩ (aa)
   ·obtain rfl:i=m:=by omega
    rw[B8 i (by simp;omega)]
    exact⟨rfl,rfl⟩
set_option maxRecDepth 10000
set_option maxHeartbeats 2000000
theorem w7 (l:List (List Int)) (hn:l.length<=4611686018427387904) (hb:∀a∈l,a.length<=4611686018427387904) (ha:GA l):ae Tryz.prog 48 [.sl [] cU l] (fun u=>u= .tup []):=by
 refine ae.intro ab ac Tryz.func48 rfl (by decide) ?_;(conv=>whnf)
 refine aE.loop (fun i:Nat=>1<=i/\i<=l.length+1) (fun i=>((.sl [] cU l):: .top::(.int .i64 (i:Int))::T 41)) (fun _=>ai.ofL []) (fun i=>l.length+1-i) 1 ⟨by omega,by omega⟩ (aM.by_ [] [] 400 rfl trivial aa) ?_
 rintro i ⟨h1,h2⟩
 refine aZ ab ac _ _ _ _ ?_
 conv=>whnf
 refine ah (fun h3=>?_) (fun h3=>?_)<;>conv=>whnf
 ·refine aE.loop (fun _:Nat=>True) (fun _=>((.sl [] cU l):: .top::(.int .i64 (i:Int))::(.int .i64 (i:Int))::T 40)) (fun _=>ai.ofL []) (fun _=>0) 0 trivial (aM.by_ [] [] 400 rfl trivial aa) ?_
  intro _ _
  refine aZ ab ac _ _ _ _ ?_
  conv=>whnf
  repeat' first|(refine at_ ?_;conv=>whnf)|(refine ah (fun _=>?_) (fun _=>?_)<;>conv=>whnf)
  have e3:((i:Int)-1).toNat=i-1:=by omega
  have hi:l.getD (i-1) []∈l:=List.mem_of_getElem? (cr (d:=[]) (l:=l) (n:=i-1) (by omega))
  have hc:bE (l.getD (i-1) []) (l.getD i [])<0:=by
   have h4:=List.pairwise_iff_getElem.1 ha (i-1) i (by omega) (by omega) (by omega)
   have e1:l.getD i []=l[i]:=by simp[List.getD,show i<l.length from by omega]
   have e2:l.getD (i-1) []=l[i-1]:=by simp[List.getD,show i-1<l.length from by omega]
   rw[e1,e2];exact h4
  simp only[tN,e3]
  refine u3 5 (cO (l.getD (i-1) []) (l.getD i []) (hb _ hi)) rfl ⟨_,rfl⟩ ?_
  rintro _ rfl
  conv=>whnf
  repeat' first|(refine at_ ?_;conv=>whnf)|(refine ah (fun _=>?_) (fun _=>?_)<;>conv=>whnf)
  exact⟨i+1,(aM.by_ [] [] 400 rfl trivial aa),⟨by omega,by omega⟩,Nat.sub_lt_sub_left (by omega) (by omega)⟩
 ·exact⟨rfl,rfl⟩
theorem Hg (n:Nat) (h:n<=8):(((n:Int).tmod 2=0)/\ci n=[])\/∃m,m<=3/\n=2*m+1/\(n:Int).tmod 2≠0:=by
 have:n=0\/n=1\/n=2\/n=3\/n=4\/n=5\/n=6\/n=7\/n=8:=by omega
 rcases this with rfl|rfl|rfl|rfl|rfl|rfl|rfl|rfl|rfl
 ·left;decide
 ·right;exact⟨0,by decide⟩
 ·left;decide
 ·right;exact⟨1,by decide⟩
 ·left;decide
 ·right;exact⟨2,by decide⟩
 ·left;decide
 ·right;exact⟨3,by decide⟩
 ·left;decide
def vp (n:Int):AV:=if 1<=n/\n<=8 then .tup [.sl [] cU (ci n.toNat), .int .i64 0] else .tup [.sl [] cU [], .int .i64 1]
theorem rf {n:Int} (h:1<=n/\n<=8):vp n= .tup [.sl [] cU (ci n.toNat), .int .i64 0]:=if_pos h
theorem w8 {n:Int} (h:¬(1<=n/\n<=8)):vp n= .tup [.sl [] cU [], .int .i64 1]:=if_neg h
theorem sW (n:Int):ae Tryz.prog 16 [.int .i64 n] (fun u=>u=vp n):=by
 by_cases h:1<=n/\n<=8
 ·rw[rf h]
  obtain⟨k,rfl⟩:=Int.eq_ofNat_of_zero_le (show 0<=n by omega)
  rcases Hg k (by omega) with ⟨he,hs⟩|⟨m,hm,rfl,_⟩
  ·rw[tN,hs]
   refine ae.sub (R:=fun u=>u= .tup [.nilsl, .int .i64 0]) ?_ (by rintro _ rfl;exact⟨_,rfl,(aa),rfl⟩)
   refine ae.intro ab ac Tryz.func16 rfl (by decide) ?_;(conv=>whnf)
   repeat' first|(refine at_ ?_;conv=>whnf)|(refine ah (fun _=>?_) (fun _=>?_)<;>conv=>whnf)
   (refine oP (zm _ he) ?_;conv=>whnf)
   exact⟨rfl,rfl⟩
  ·rw[tN]
   refine ae.intro ab ac Tryz.func16 rfl (by decide) ?_;(conv=>whnf)
   repeat' first|(refine at_ ?_;conv=>whnf)|(refine ah (fun _=>?_) (fun _=>?_)<;>conv=>whnf)
   (refine oP (tX m hm) ?_;conv=>whnf)
   exact⟨rfl,rfl⟩
 ·rw[w8 h]
  refine ae.sub (R:=fun u=>u= .tup [.nilsl, .int .i64 1]) ?_ (by rintro _ rfl;exact⟨_,rfl,(aa),rfl⟩)
  refine ae.intro ab ac Tryz.func16 rfl (by decide) ?_;(conv=>whnf)
  repeat' first|(refine at_ ?_;conv=>whnf)|(refine ah (fun _=>?_) (fun _=>?_)<;>conv=>whnf)
  ·exact⟨rfl,rfl⟩
  ·exact⟨rfl,rfl⟩
theorem sX (s:AV) (count i:Int) (h0:0<=i) (h1:i<count) (hc:count<=9223372036854775807):ae Tryz.prog 15 [.int .i64 3,s, .int .i64 count, .int .i64 i]
  (fun u=>u= .tup [.int .i64 (if i-1<0 then count-1 else i-1), .int .i64 (if i+1=count then 0 else i+1), .int .i64 (-1)]):=by
 refine ae.intro ab ac Tryz.func15 rfl (by decide) ?_;(conv=>whnf)
 repeat' first|(refine at_ ?_;conv=>whnf)|(refine ah (fun _=>?_) (fun _=>?_)<;>conv=>whnf)
 all_goals(simp_all [fP,bX];try omega)
end Go.Proofs.YtokjgegkhlkopaaGreatDoor
set_option maxRecDepth 100000
namespace Go.Proofs.YtokjgegkhlkopaaGreatDoor
theorem NF:(ci (Int.toNat 5)).length=2:=by decide
theorem L7:(ci (Int.toNat 5)).getD (Int.toNat 0) []=[2,0,2,0,0]:=by decide
theorem kw:ae Tryz.prog 6 [] (fun u=>u= .bool true):=by
 have hs:=sW 5
 rw[rf (by decide)] at hs
 have hn:=sX .nilsl 2 0 (by decide) (by decide) (by decide)
 simp only[show((0:Int)-1<0)=True from by simp,if_true,show(2:Int)-1=1 from rfl,show(0:Int)+1=1 from rfl,show((1:Int)=2)=False from by simp,if_false] at hn
 refine ae.intro ab ac Tryz.func6 rfl (by decide) ?_;(conv=>whnf)
 (refine oP (hn) ?_;conv=>whnf)
 (refine oP (hs) ?_;conv=>whnf)
 repeat' first|(refine at_ ?_;conv=>whnf)|(refine ah (fun _=>?_) (fun _=>?_)<;>conv=>whnf)
 ·rw[L7]
  refine an.hand 38 rfl ?_
  (refine oP (w4 [2,0,2,0,0] [2,0,2,0,0] (by decide)) ?_;conv=>whnf)
  exact⟨rfl,rfl⟩
 ·rename_i h
  exact absurd (congrArg Int.ofNat NF) h
set_option maxRecDepth 100000
def iK:Int->List Int->Bool
 |n,[]=>decide (n=0)
 |n,x::xs=>if n=0 then false else if x≠0/\x≠2 then false else iK (n+(x-1)) xs
theorem p5 {l:List Int} {i:Nat} (h:i<l.length):l.drop i=l.getD i 0::l.drop (i+1):=by
 rw[List.drop_eq_getElem_cons h,gD,gL h]
 rfl
theorem Eh (l:List Int) (hl:l.length<=1000):ae Tryz.prog 98 [.sl 0 aD l] (fun u=>u= .bool (iK 1 l)):=by
 refine ae.intro ab ac Tryz.func98 rfl (by decide) ?_;(conv=>whnf)
 refine aE.loop (fun x:Nat×Int=>x.1<=l.length/\-1-x.1<=x.2/\x.2<=1+x.1/\iK 1 l=iK x.2 (l.drop x.1)) (fun x=>((.sl 0 aD l):: .top:: .top::(.int .i64 x.2)::(.int .i64 (x.1:Int))::T 31)) (fun _=>ai.ofL []) (fun x=>l.length-x.1) (0,1) (by simp) (aM.by_ [] [] 400 rfl trivial aa) ?_
 rintro⟨i,n⟩ ⟨hi,h1,h2,hs⟩
 dsimp only at hi h1 h2 hs
 refine aZ ab ac _ _ _ _ ?_
 conv=>whnf
 repeat' first|(refine at_ ?_;conv=>whnf)|(refine ah (fun _=>?_) (fun _=>?_)<;>conv=>whnf)
 ·rename_i hlt h0
  dsimp only at hlt h0
  rw[hs,p5 (by omega),iK,if_pos h0]
  exact⟨rfl,rfl⟩
 ·rename_i hlt h0 ha hb
  dsimp only at hlt h0
  rw[tN] at ha hb
  rw[hs,p5 (by omega),iK,if_neg h0,if_pos ⟨ha,hb⟩]
  exact⟨rfl,rfl⟩
 ·rename_i hlt h0 ha hb
  dsimp only at hlt h0
  rw[tN] at ha hb
  have hb':l.getD i 0=2:=by simpa using hb
  refine⟨(i+1,n+(l.getD i 0-1)),(aM.by_ [] [] 400 rfl trivial aa),⟨by omega,by dsimp only;omega,by dsimp only;omega,?_⟩,Nat.sub_lt_sub_left (by dsimp only;omega) (by dsimp only;omega)⟩
  dsimp only
  rw[hs,p5 (by omega),iK,if_neg h0,if_neg (by rw[hb'];decide)]
 ·rename_i hlt h0 ha
  dsimp only at hlt h0
  rw[tN] at ha
  have hb':l.getD i 0=0:=by simpa using ha
  refine⟨(i+1,n+(l.getD i 0-1)),(aM.by_ [] [] 400 rfl trivial aa),⟨by omega,by dsimp only;omega,by dsimp only;omega,?_⟩,Nat.sub_lt_sub_left (by dsimp only;omega) (by dsimp only;omega)⟩
  dsimp only
  rw[hs,p5 (by omega),iK,if_neg h0,if_neg (by rw[hb'];decide)]
 ·rename_i hlt h0
  dsimp only at hlt h0
  rw[hs,List.drop_eq_nil_of_le (by omega),iK,decide_eq_true h0]
  exact⟨rfl,rfl⟩
 ·rename_i hlt h0
  dsimp only at hlt h0
  rw[hs,List.drop_eq_nil_of_le (by omega),iK,decide_eq_false h0]
  exact⟨rfl,rfl⟩
def zt:Nat->List (List Int)
 |0=>[[]]
 |n+1=>(zt n).map (0::·)++(zt n).map (2::·)
theorem Ei:∀(l:List Int) (n:Int),iK n l=true->l∈zt l.length
 |[],_,_=>by simp[zt]
 |x::xs,n,h=>by
  rw[iK] at h
  split at h
  ·cases h
  ·split at h
   ·cases h
   ·rename_i hx
    have:=Ei xs _ h
    have hx:x=0\/x=2:=by omega
    simp only[zt,List.length_cons,List.mem_append,List.mem_map]
    rcases hx with rfl|rfl
    ·exact .inl ⟨xs,this,rfl⟩
    ·exact .inr ⟨xs,this,rfl⟩
theorem J0:((List.range 9).all fun k=>(zt k).all fun l=>!iK 1 l||(ci k).contains l||k==0)=true:=by kernel_rfl
theorem Ej:((List.range 9).all fun k=>(ci k).all fun l=>iK 1 l&&l.length==k)=true:=by kernel_rfl
theorem J1 {l:List Int} (h1:1<=l.length) (h8:l.length<=8):iK 1 l=decide (l∈ci l.length):=by
 cases h:iK 1 l with
 |true=>
  have:=Ei l 1 h
  have k:=J0
  rw[List.all_eq_true] at k
  have k:=k l.length (by simp;omega)
  rw[List.all_eq_true] at k
  have k:=k l this
  simp only[h,Bool.not_true,Bool.false_or,Bool.or_eq_true,beq_iff_eq,List.contains_iff_mem] at k
  rcases k with k|k
  ·rw[decide_eq_true k]
  ·omega
 |false=>
  symm
  rw[decide_eq_false_iff_not]
  intro hm
  have k:=Ej
  rw[List.all_eq_true] at k
  have k:=k l.length (by simp;omega)
  rw[List.all_eq_true] at k
  have k:=k l hm
  simp[h] at k
theorem L8 {k:Nat} (h:k<=8) {a:List Int} (ha:a∈ci k):iK 1 a=true/\a.length=k:=by
 have e:=Ej
 rw[List.all_eq_true] at e
 have e:=e k (by simp;omega)
 rw[List.all_eq_true] at e
 have e:=e a ha
 simpa using e
end Go.Proofs.YtokjgegkhlkopaaGreatDoor
