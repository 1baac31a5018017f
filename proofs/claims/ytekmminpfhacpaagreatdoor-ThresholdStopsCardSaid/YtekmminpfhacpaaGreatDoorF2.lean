import Derived.Test.YtekmminpfhacpaaGreatDoorF1
set_option linter.unusedVariables false
set_option linter.unusedSimpArgs false
namespace Go.Proofs.YtekmminpfhacpaaGreatDoor
def bB:Nat->List Int->Option (List Int)
 |0,l=>some l
 |_+1,[]=>none
 |n+1,x::xs=>if x=0 then bB n xs else if x=2 then bB (n+2) xs else none
theorem dS (l:List Int):bB 0 l=some l:=by cases l<;>rfl
theorem e8 (n:Nat):bB (n+1) []=none:=rfl
theorem b7 (n:Nat) (x:Int) (xs:List Int):bB (n+1) (x::xs)=if x=0 then bB n xs else if x=2 then bB (n+2) xs else none:=rfl
theorem fb:∀(l:List Int) (a b:Nat),bB (a+b) l=(bB a l).bind (bB b)
 |l,0,b=>by rw[Nat.zero_add,dS];rfl
 |[],a+1,b=>by rw[show a+1+b=(a+b)+1 by omega,e8,e8];rfl
 |x::xs,a+1,b=>by
  rw[show a+1+b=(a+b)+1 by omega,b7,b7]
  split
  ·exact fb xs a b
  ·split
   ·rw[show a+b+2=(a+2)+b by omega];exact fb xs (a+2) b
   ·rfl
theorem iR:∀(l:List Int) (n:Nat) (r:List Int),bB n l=some r->∃k,n<=k/\k<=l.length/\r=l.drop k
 |l,0,r,h=>by rw[dS] at h;cases h;exact⟨0,by omega,by omega,by simp⟩
 |[],n+1,r,h=>by rw[e8] at h;cases h
 |x::xs,n+1,r,h=>by
  rw[b7] at h
  split at h
  ·obtain⟨k,h1,h2,h3⟩:=iR xs n r h
   exact⟨k+1,by omega,by simp;omega,by simpa using h3⟩
  ·split at h
   ·obtain⟨k,h1,h2,h3⟩:=iR xs (n+2) r h
    exact⟨k+1,by omega,by simp;omega,by simpa using h3⟩
   ·cases h
def bc (l:List Int) (i:Nat):Nat:=match bB 1 (l.drop i) with
 |some r=>l.length-r.length
 |none=>0
theorem jw {l r:List Int} {i:Nat} (h:bB 1 (l.drop i)=some r):i<bc l i/\bc l i<=l.length/\r=l.drop (bc l i):=by
 obtain⟨k,h1,h2,h3⟩:=iR _ _ _ h
 have e:bc l i=l.length-r.length:=by unfold bc;rw[h]
 rw[List.drop_drop] at h3
 have hl:(l.drop i).length=l.length-i:=List.length_drop
 have hr:r.length=l.length-(i+k):=by rw[h3,List.length_drop]
 have e2:bc l i=i+k:=by omega
 exact⟨by omega,by omega,by rw[e2,h3]⟩
theorem fc {l:List Int} {i:Nat} (h:i<l.length):l.drop i=l.getD i 0::l.drop (i+1):=by
 rw[List.drop_eq_getElem_cons h,gD,gL h]
 rfl
theorem gM:∀(l:List Int) (n:Nat) (r:List Int) (k:Nat),bB n l=some r->k+r.length<l.length->∃r',bB 1 (l.drop k)=some r'/\r.length<=r'.length
 |l,0,r,k,h,hk=>by rw[dS] at h;cases h;omega
 |[],n+1,r,k,h,hk=>by rw[e8] at h;cases h
 |x::xs,n+1,r,0,h,hk=>by
  rw[show n+1=1+n by omega,fb] at h
  obtain⟨m,hm,hr⟩:=Option.bind_eq_some_iff.1 h
  obtain⟨j,_,_,hj⟩:=iR _ _ _ hr
  exact⟨m,hm,by rw[hj];simp⟩
 |x::xs,n+1,r,k+1,h,hk=>by
  rw[b7] at h
  simp only[List.length_cons] at hk
  split at h
  ·exact gM xs n r k h (by omega)
  ·split at h
   ·exact gM xs (n+2) r k h (by omega)
   ·cases h
def shp (l:List Int):Prop:=bB 1 l=some []
instance (l:List Int):Decidable (shp l):=inferInstanceAs (Decidable (bB 1 l=some []))
theorem shp.at {l:List Int} (h:shp l) {i:Nat} (hi:i<l.length):bB 1 (l.drop i)=some (l.drop (bc l i))/\i<bc l i/\bc l i<=l.length:=by
 obtain⟨r,hr,_⟩:=gM l 1 [] i h (by simpa using hi)
 obtain⟨h1,h2,h3⟩:=jw hr
 exact⟨by rw[hr,h3],h1,h2⟩
theorem shp.two {l:List Int} (h:shp l) {i:Nat} (hi:i<l.length) (h2:l.getD i 0=2):i+1<l.length/\i+1<bc l (i+1)/\bc l (i+1)<l.length/\bc l (bc l (i+1))=bc l i/\bc l (i+1)<bc l i:=by
 obtain⟨e,h3,h4⟩:=h.at hi
 rw[fc hi,b7 0,h2] at e
 simp only[show(2:Int)≠0 by decide,if_false,if_true] at e
 rw[show 0+2=1+1 from rfl,fb _ 1 1] at e
 obtain⟨m,hm,hr⟩:=Option.bind_eq_some_iff.1 e
 obtain⟨k1,k2,k3⟩:=jw hm
 have hne:bc l (i+1)<l.length:=by
  by_cases hh:bc l (i+1)<l.length
  ·exact hh
  ·rw[List.drop_eq_nil_of_le (by omega)] at k3
   subst k3;rw[e8] at hr;cases hr
 rw[k3] at hr
 obtain⟨j1,j2,j3⟩:=jw hr
 have hlen:=congrArg List.length j3
 simp only[List.length_drop] at hlen
 have:bc l (bc l (i+1))=bc l i:=by omega
 exact⟨by omega,k1,hne,this,by omega⟩
theorem shp.zeroTwo {l:List Int} (h:shp l) {i:Nat} (hi:i<l.length):l.getD i 0=0\/l.getD i 0=2:=by
 obtain⟨e,h3,h4⟩:=h.at hi
 rw[fc hi,b7 0] at e
 split at e
 ·exact .inl ‹_›
 ·split at e
  ·exact .inr ‹_›
  ·cases e
theorem shp.nest {l:List Int} (h:shp l) {i k:Nat} (hi:i<=k) (hk:k<bc l i) (hil:i<l.length):bc l k<=bc l i:=by
 obtain⟨e,h3,h4⟩:=h.at hil
 obtain⟨r',hr',hle⟩:=gM _ 1 _ (k-i) e (by simp only[List.length_drop];omega)
 rw[List.drop_drop,show i+(k-i)=k by omega] at hr'
 obtain⟨j1,j2,j3⟩:=jw hr'
 rw[j3] at hle
 simp only[List.length_drop] at hle
 omega
def cA (l:List Int) (j k:Nat):Bool:=decide (l.getD k 0=2)&&(decide (k+1=j)||decide (bc l (k+1)=j))
def kA (l:List Int) (j:Nat):Nat->Int
 |0=>-1
 |n+1=>if cA l j n then(n:Int) else kA l j n
theorem ik (l:List Int) (j n:Nat):kA l j (n+1)=if cA l j n then(n:Int) else kA l j n:=rfl
def gY (l:List Int) (i:Nat):Int:=if l.getD i 0=2 then((i+1:Nat):Int) else -1
def fj (l:List Int) (i:Nat):Int:=if l.getD i 0=2 then(bc l (i+1):Int) else -1
def bS (l:List Int) (i:Nat):Int:=kA l i i
theorem oh (l:List Int) (j n:Nat):kA l j n=-1\/∃k,k<n/\kA l j n=k/\cA l j k=true:=by
 induction n with
 |zero=>exact .inl rfl
 |succ n ih=>
  unfold kA
  split
  ·exact .inr ⟨n,by omega,rfl,‹_›⟩
  ·rcases ih with h|⟨k,h1,h2,h3⟩
   ·exact .inl h
   ·exact .inr ⟨k,by omega,h2,h3⟩
theorem wi {l:List Int} {j n k:Nat} (hk:k<n) (h:cA l j k=true) (hu:∀m,k<m->m<n->cA l j m=false):kA l j n=k:=by
 induction n with
 |zero=>omega
 |succ n ih=>
  unfold kA
  by_cases e:k=n
  ·subst e;rw[if_pos h]
  ·rw[if_neg (by rw[hu n (by omega) (by omega)];simp)]
   exact ih (by omega) fun m h1 h2=>hu m h1 (by omega)
theorem xE {l:List Int} {j n m:Nat} (hnm:n<=m) (hu:∀k,n<=k->k<m->cA l j k=false):kA l j m=kA l j n:=by
 induction m with
 |zero=>rw[show n=0 by omega]
 |succ m ih=>
  by_cases e:n=m+1
  ·rw[e]
  ·rw[ik,if_neg (by rw[hu m (by omega) (by omega)];simp)]
   exact ih (by omega) fun k h1 h2=>hu k h1 (by omega)
theorem zy {l:List Int} (h:shp l) {j k:Nat} (hk:k<l.length) (hp:cA l j k=true):k<j/\j<l.length:=by
 simp only[cA,Bool.and_eq_true,Bool.or_eq_true,decide_eq_true_eq] at hp
 obtain⟨h2,hp⟩:=hp
 obtain⟨a,b,c,d,e⟩:=h.two hk h2
 omega
theorem zB {l:List Int} (h:shp l) {j:Nat} (hj:j<l.length):kA l j l.length=bS l j:=by
 unfold bS
 refine xE (by omega) fun k h1 h2=>?_
 cases e:cA l j k
 ·rfl
 ·have:=zy h h2 e;omega
theorem pt {l:List Int} (h:shp l) {i:Nat} (hi:i<l.length) (h2:l.getD i 0=2):bS l (i+1)=i:=by
 unfold bS
 exact wi (by omega) (by simp[cA,h2,-List.getD_eq_getElem?_getD]) fun m h1 h3=>by omega
theorem oi {l:List Int} (h:shp l) {i:Nat} (hi:i<l.length) (h2:l.getD i 0=2):bS l (bc l (i+1))=i:=by
 obtain⟨a,b,c,d,e⟩:=h.two hi h2
 unfold bS
 refine wi (by omega) (by simp[cA,h2,-List.getD_eq_getElem?_getD]) fun m h1 h3=>?_
 cases hp:cA l (bc l (i+1)) m
 ·rfl
 ·simp only[cA,Bool.and_eq_true,Bool.or_eq_true,decide_eq_true_eq] at hp
  obtain⟨hm2,hp⟩:=hp
  obtain⟨a',b',c',d',e'⟩:=h.two (i:=m) (by omega) hm2
  have:=h.nest (i:=i+1) (k:=m) (by omega) h3 (by omega)
  omega
set_option maxRecDepth 100000
def bm (l:List Int):bP:=.row 3 0 ao l
theorem wj {l l':List Int} (lm:cR) (h:l=l'):mb lm 400 (some (bm l)) (bm l'):=by subst h;rfl
theorem zD (k:Nat) (hn:k<=1000):am Tryz.prog 277 [.int .i64 (k:Int)] (aj.ofL []) (fun u M=>∃ℓ0,u= .row ℓ0 k 1/\M ℓ0=some (bm (List.replicate k (-1)))):=by
 refine am.intro ac ae [] Tryz.func277 rfl (by decide) ?_
 conv=>whnf
 rw[if_neg (by omega)]
 refine DY 0 ao 0 rfl (by dsimp only;omega) ?_
 rw[tN]
 conv=>whnf
 repeat' first|(refine at_ ?_;conv=>whnf)|(refine ag (fun _=>?_) (fun _=>?_)<;>conv=>whnf)
 refine aF.loop (fun i:Nat=>i<=k) (fun i=>(.top:: .top:: .top::(.row 7 k 1):: .top:: .top:: .top:: .top:: .top::(.int .i64 (k:Int))::(.int .i64 (i:Int))::T 7)) (fun i=>aj.ofL [(7,bm (List.replicate i (-1)++List.replicate (k-i) 0))]) (fun i=>k-i) 0 (by omega) (aR.by_ [(7, .old 7)] _ 400 rfl ⟨wj _ (by simp),trivial⟩ (aa)) ?_
 intro i hi
 refine fv ac ae _ _ _ _ ?_
 conv=>whnf
 repeat' first|(refine at_ ?_;conv=>whnf)|(refine ag (fun _=>?_) (fun _=>?_)<;>conv=>whnf)
 ·refine⟨i+1,(aR.by_ [(7, .old 7)] _ 400 rfl ⟨wj _ ?_,trivial⟩ (aa)),by omega,Nat.sub_lt_sub_left (by omega) (by omega)⟩
  rw[tN,List.set_append_right _ _ (by simp),List.length_replicate,Nat.sub_self,List.replicate_succ',List.append_assoc]
  congr 1
  rw[show k-i=(k-(i+1))+1 by omega,List.replicate_succ]
  rfl
 ·obtain rfl:i=k:=by omega
  refine⟨7,rfl,?_⟩
  show some _=_
  simp only[Nat.sub_self,List.replicate_zero,List.append_nil]
def oj (l:List Int) (n:Nat) (row:List Int):List (Nat×bP):=
 [(0, .box 3 [.int .i64 (n:Int)]),(2, .box 43 [.fn 241 [.ptr 0 0, .pd [.sl 0 ao l], .ptr 2 0, .ptr 3 0]]),(3, .box 24 [.row 4 l.length 1]),(4,bm row)]
def Gi:cR:=[(0, .old 0),(2, .old 2),(3, .old 3),(4, .old 4)]
def GG (l:List Int) (n:Nat) (row:List Int):AV->aj->Prop:=fun u M=>∃n' row',dc Gi 400 M (oj l n' row')/\row'.length=l.length/\n'<=l.length/\
 ((bB 1 (l.drop n)=some (l.drop n')/\u= .bool true/\n<n'/\∀k:Nat,row'.getD k 0=if n<=k/\k<n' then(bc l k:Int) else row.getD k 0)\/(bB 1 (l.drop n)=none/\u= .bool false))
theorem zE {l:List Int} {i n:Nat} (hn:n<=l.length) (h:bB 1 (l.drop i)=some (l.drop n)):bc l i=n:=by
 obtain⟨h1,h2,h3⟩:=jw h
 have:=congrArg List.length h3
 simp only[List.length_drop] at this
 omega
theorem xF {l:List Int} {n:Nat} (h:¬n<l.length):bB 1 (l.drop n)=none:=by
 rw[List.drop_eq_nil_of_le (by omega)];rfl
theorem zF {l:List Int} {n:Nat} (h:n<l.length) (h0:l.getD n 0≠0) (h2:l.getD n 0≠2):bB 1 (l.drop n)=none:=by
 rw[fc h,b7 0,if_neg h0,if_neg h2]
theorem zG {l:List Int} {n:Nat} (h:n<l.length) (h2:l.getD n 0=0\/l.getD n 0=2):bB 1 (l.drop n)=bB (l.getD n 0).toNat (l.drop (n+1)):=by
 rw[fc h,b7 0]
 rcases h2 with e|e
 ·rw[e];rfl
 ·rw[e];rfl
theorem uS {l:List Int} {a c n n2:Nat} (h:bB c (l.drop a)=some (l.drop n)) (h2:bB 1 (l.drop n)=some (l.drop n2)):bB (c+1) (l.drop a)=some (l.drop n2):=by
 rw[fb,h];exact h2
theorem uT {l:List Int} {a c d n:Nat} (h:bB c (l.drop a)=some (l.drop n)) (h2:bB 1 (l.drop n)=none) (hc:c<d):bB d (l.drop a)=none:=by
 rw[show d=c+(1+(d-c-1)) by omega,fb,h]
 show bB _ _=none
 rw[fb,h2];rfl
theorem GH (l:List Int) (hl:l.length<=1000):∀(m n:Nat) (row:List Int),l.length-n=m->n<=l.length->row.length=l.length->
  am Tryz.prog 241 [.ptr 0 0, .pd [.sl 0 ao l], .ptr 2 0, .ptr 3 0] (aj.ofL (oj l n row)) (GG l n row):=by
 intro m
 induction m using Nat.strongRecOn with
 |_ m ih=>
  intro n row hm hn hr
  refine am.intro ac ae (oj l n row) Tryz.func241 rfl (by decide) ?_
  conv=>whnf
  by_cases hlt:n<l.length
  ·by_cases hv:l.getD n 0=0\/l.getD n 0=2
   ·have hw:=zG hlt hv
    have hx:0<=l.getD n 0/\l.getD n 0<=2:=by omega
    have hto:((l.getD n 0).toNat:Int)=l.getD n 0:=by omega
    refine fI ?_
    conv=>whnf
    repeat' first|(refine at_ ?_;conv=>whnf)|(refine ag (fun _=>?_) (fun _=>?_)<;>conv=>whnf)
    ·rename_i h1 h2
     rw[tN] at h1 h2
     omega
    all_goals
     refine aF.loop (fun x:Nat×Nat×List Int=>x.1<=(l.getD n 0).toNat/\n+1<=x.2.1/\x.2.1<=l.length/\x.2.2.length=l.length/\bB x.1 (l.drop (n+1))=some (l.drop x.2.1)/\∀k:Nat,x.2.2.getD k 0=if n+1<=k/\k<x.2.1 then(bc l k:Int) else row.getD k 0)
      (fun x=>((.ptr 0 0)::(.pd [.sl 0 ao l])::(.ptr 2 0)::(.ptr 3 0):: .top::(.int .i64 (n:Int)):: .top:: .top:: .top:: .top:: .top:: .top:: .top:: .top:: .top:: .top:: .top:: .top:: .top:: .top:: .top:: .top:: .top:: .top:: .top:: .top:: .top:: .top:: .top:: .top::(.int .i64 (l.getD n 0))::(.int .i64 (x.1:Int))::T 9)) (fun x=>aj.ofL (oj l x.2.1 x.2.2)) (fun x=>(l.getD n 0).toNat-x.1) (0,n+1,row) ⟨by dsimp only;omega,by dsimp only;omega,by dsimp only;omega,hr,dS _,fun k=>by rw[if_neg (by dsimp only;omega)]⟩ (aR.by_ Gi _ 400 rfl (aa) (aa)) ?_
     rintro⟨c,n1,row1⟩ ⟨hc,h1,h2,h3,h4,h5⟩
     dsimp only at hc h1 h2 h3 h4 h5⊢
     refine fv ac ae _ _ _ _ ?_
     conv=>whnf
     refine ag (fun hcx=>?_) (fun hcx=>?_)<;>conv=>whnf
     ·refine am.call Gi (oj l n1 row1) 400 rfl (aa) (aa) (ih (l.length-n1) (by omega) n1 row1 rfl h2 h3) ?_
      rintro u M' ⟨n2,row2,hm2,hl2,hn2,hh⟩
      rcases hh with ⟨e1,rfl,e2,e3⟩|⟨e1,rfl⟩
      ·refine⟨Gi,oj l n2 row2, .bool true,rfl,hm2,rfl,?_⟩
       conv=>whnf
       repeat' first|(refine at_ ?_;conv=>whnf)|(refine ag (fun _=>?_) (fun _=>?_)<;>conv=>whnf)
       refine⟨(c+1,n2,row2),(aR.by_ Gi _ 400 rfl (aa) (aa)),⟨by dsimp only;omega,by dsimp only;omega,hn2,hl2,uS h4 e1,fun k=>?_⟩,Nat.sub_lt_sub_left (by dsimp only;omega) (by dsimp only;omega)⟩
       dsimp only
       rw[e3 k,h5 k]
       by_cases ha:n1<=k/\k<n2
       ·rw[if_pos ha,if_pos (by omega)]
       ·rw[if_neg ha]
        by_cases hb:n+1<=k/\k<n1
        ·rw[if_pos hb,if_pos (by omega)]
        ·rw[if_neg hb,if_neg (by omega)]
      ·refine⟨Gi,oj l n2 row2, .bool false,rfl,hm2,rfl,?_⟩
       conv=>whnf
       refine⟨n2,row2,(aa),hl2,hn2, .inr ⟨?_,rfl⟩⟩
       rw[hw]
       exact uT h4 e1 (by omega)
     ·have hc2:c=(l.getD n 0).toNat:=by omega
      rw[hc2,<-hw] at h4
      have he:=zE h2 h4
      repeat' first|(refine at_ ?_;conv=>whnf)|(refine ag (fun _=>?_) (fun _=>?_)<;>conv=>whnf)
      refine⟨n1,row1.set n n1,(aa),by rw[List.length_set,h3],h2, .inl ⟨h4,rfl,by omega,fun k=>?_⟩⟩
      rw[gD,List.getElem?_set]
      by_cases hk:n=k
      ·subst hk
       rw[if_pos rfl,if_pos (by omega),if_pos (by omega),he]
       rfl
      ·rw[if_neg hk,<-gD,h5 k]
       by_cases hb:n+1<=k/\k<n1
       ·rw[if_pos hb,if_pos (by omega)]
       ·rw[if_neg hb,if_neg (by omega)]
   ·have hb:=zF hlt (fun h=>hv (.inl h)) (fun h=>hv (.inr h))
    repeat' first|(refine at_ ?_;conv=>whnf)|(refine ag (fun _=>?_) (fun _=>?_)<;>conv=>whnf)
    ·exact⟨n,row,(aa),hr,hn, .inr ⟨hb,rfl⟩⟩
    all_goals
     exfalso
     simp only[tN] at*
     omega
  ·have hb:=xF hlt
   repeat' first|(refine at_ ?_;conv=>whnf)|(refine ag (fun _=>?_) (fun _=>?_)<;>conv=>whnf)
   exact⟨n,row,(aa),hr,hn, .inr ⟨hb,rfl⟩⟩
set_option maxRecDepth 100000
theorem b8 (l:List Int) (i k:Nat) (v:Int):(l.set i v).getD k 0=if i=k/\i<l.length then v else l.getD k 0:=by
 rw[gD,List.getElem?_set]
 by_cases h:i=k
 ·subst h
  by_cases h2:i<l.length
  ·simp[h2]
  ·simp[h2,gD]
 ·simp[h,gD]
theorem lj {l:List Int} {n:Nat} (hl:l.length=n) {g:Nat->Int} (h:∀k,k<n->l.getD k 0=g k):l=(List.range n).map g:=by
 apply List.ext_getElem
 ·simp[hl]
 ·intro i h1 h2
  have:=h i (by omega)
  rw[gD,gL h1] at this
  simpa using this
theorem il (n k:Nat) (v:Int) (h:k<n):(List.replicate n v).getD k 0=v:=by
 simp[gD,List.getElem?_replicate,h]
theorem aH (n k:Nat) (g:Nat->Int) (h:k<n):((List.range n).map g).getD k 0=g k:=by
 simp[gD,h]
instance (l:List Int):Decidable (shp l):=inferInstanceAs (Decidable (bB 1 l=some []))
def lk (l:List Int):List Int:=(List.range l.length).map fun i=>(bc l i:Int)
theorem wk {l:List Int} (h:shp l):0<l.length:=by
 cases l with
 |nil=>cases h
 |cons x l=>simp
def GI (l:List Int) (n:Nat) (row:List Int):AV->aj->Prop:=fun u M=>∃n' row',M=aj.ofL (oj l n' row')/\row'.length=l.length/\n'<=l.length/\
 ((bB 1 (l.drop n)=some (l.drop n')/\u= .bool true/\n<n'/\∀k:Nat,row'.getD k 0=if n<=k/\k<n' then(bc l k:Int) else row.getD k 0)\/(bB 1 (l.drop n)=none/\u= .bool false))
theorem GJ (l:List Int) (hl:l.length<=1000) (n:Nat) (row:List Int) (hn:n<=l.length) (hr:row.length=l.length):
  am Tryz.prog 241 [.ptr 0 0, .pd [.sl 0 ao l], .ptr 2 0, .ptr 3 0] (aj.ofL (oj l n row)) (GI l n row):=by
 refine am.norm 400 (GH l hl _ n row rfl hn hr) ?_
 rintro u M' ⟨n2,row2,hm2,hl2,hn2,hh⟩
 refine⟨oj l n2 row2,u,rfl,hm2,?_,n2,row2,rfl,hl2,hn2,hh⟩
 rcases hh with ⟨_,rfl,_⟩|⟨_,rfl⟩<;>rfl
theorem wm (l:List Int) (hl:l.length<=1000):ab Tryz.prog 160 [.sl 0 ao l] (fun u=>u=if shp l then .sl 0 ao (lk l) else .nilsl):=by
 refine ab.intro ac ae Tryz.func160 rfl (by decide) ?_;(conv=>whnf)
 refine ak rfl ?_
 conv=>whnf
 refine DY 0 ao 0 rfl (by dsimp only;omega) ?_
 rw[tN]
 conv=>whnf
 repeat' first|(refine at_ ?_;conv=>whnf)|(refine ag (fun _=>?_) (fun _=>?_)<;>conv=>whnf)
 refine am.call [(0, .old 4),(2, .old 5),(3, .old 3),(4, .old 8)] (oj l 0 (List.replicate l.length 0)) 400 rfl (aa) (aa) (GJ l hl 0 (List.replicate l.length 0) (by omega) (by simp)) ?_
 rintro u M' ⟨n2,row2,rfl,hl2,hn2,hh⟩
 rcases hh with ⟨h1,rfl,h2,h3⟩|⟨h1,rfl⟩
 ·refine⟨[(4, .old 0),(5, .old 2),(3, .old 3),(8, .old 4)],[(4, .box 3 [.int .i64 (n2:Int)]),(5, .box 43 [.fn 241 [.ptr 4 0, .pd [.sl 0 ao l], .ptr 5 0, .ptr 3 0]]),(3, .box 24 [.row 8 l.length 1]),(8,bm row2)], .bool true,rfl,(aa),rfl,?_⟩
  conv=>whnf
  rw[List.drop_zero] at h1
  repeat' first|(refine at_ ?_;conv=>whnf)|(refine ag (fun _=>?_) (fun _=>?_)<;>conv=>whnf)
  ·rename_i hne
   rw[if_neg]
   ·exact⟨rfl,rfl⟩
   ·intro hs
    rw[shp,h1,Option.some.injEq] at hs
    have:=congrArg List.length hs
    simp at this
    omega
  ·rename_i hne
   obtain rfl:n2=l.length:=by omega
   rw[List.drop_length] at h1
   rw[if_pos (show shp l from h1)]
   refine⟨D9 (lj hl2 fun k hk=>?_),rfl⟩
   rw[h3 k,if_pos (by omega)]
 ·refine⟨[(4, .old 0),(5, .old 2),(3, .old 3),(8, .old 4)],[(4, .box 3 [.int .i64 (n2:Int)]),(5, .box 43 [.fn 241 [.ptr 4 0, .pd [.sl 0 ao l], .ptr 5 0, .ptr 3 0]]),(3, .box 24 [.row 8 l.length 1]),(8,bm row2)], .bool false,rfl,(aa),rfl,?_⟩
  conv=>whnf
  rw[List.drop_zero] at h1
  repeat' first|(refine at_ ?_;conv=>whnf)|(refine ag (fun _=>?_) (fun _=>?_)<;>conv=>whnf)
  rw[if_neg (by rw[shp,h1];intro h;cases h)]
  exact⟨rfl,rfl⟩
def ol (t:Int) (l:List Int) (n:Nat):Bool:=decide (t=4->shp l/\l.length=n)
def om (t:Int) (l:List Int) (n i:Nat):Int:=if t=2 then(i:Int)-1 else if t=3 then(if i=0 then(n:Int)-1 else(i:Int)-1) else if t=4/\ol t l n=true then gY l i else -1
def oo (t:Int) (l:List Int) (n i:Nat):Int:=if t=2 then(if i+1=n then -1 else(i:Int)+1) else if t=3 then(if i+1=n then 0 else(i:Int)+1) else if t=4/\ol t l n=true then fj l i else -1
def pu (t:Int) (l:List Int) (n i:Nat):Int:=if t=4/\ol t l n=true then bS l i else -1
def zH (t:Int) (l:List Int) (n:Nat):AV:=.agg [.sl 0 ao ((List.range n).map (om t l n)), .sl 0 ao ((List.range n).map (oo t l n)), .sl 0 ao ((List.range n).map (pu t l n))]
theorem jx {t:Int} {l:List Int} {n:Nat} {f s p:List Int} {b:Bool} (hf:f.length=n) (hs:s.length=n) (hp:p.length=n) (h:∀k,k<n->f.getD k 0=om t l n k/\s.getD k 0=oo t l n k/\p.getD k 0=pu t l n k) (hb:b=ol t l n):
  AV.tup [.agg [.sl 0 ao f, .sl 0 ao s, .sl 0 ao p], .bool b]= .tup [zH t l n, .bool (ol t l n)]:=by
 rw[hb,zH,lj hf fun k hk=>(h k hk).1,lj hs fun k hk=>(h k hk).2.1,lj hp fun k hk=>(h k hk).2.2]
def GK (n:Nat) (f s p:List Int):List (Nat×bP):=[(6, .box 228 [.nilsl, .nilsl, .nilsl]),(8, .box 228 [.row 14 n 1, .row 16 n 1, .row 18 n 1]),(14,bm f),(16,bm s),(18,bm p)]
theorem GL (t:Int) (l:List Int) (n:Nat) (hl:l.length<=1000) (hn:n<=1000):ab Tryz.prog 238 [.int .i64 t, .sl 0 ao l, .int .i64 (n:Int)] (fun u=>u= .tup [zH t l n, .bool (ol t l n)]):=by
 refine ab.intro ac ae Tryz.func238 rfl (by decide) ?_;(conv=>whnf)
 refine am.fresh 14 (zD n hn) rfl (aa) ?_
 conv=>whnf
 refine am.fresh 16 (zD n hn) rfl (aa) ?_
 conv=>whnf
 refine am.fresh 18 (zD n hn) rfl (aa) ?_
 conv=>whnf
 by_cases h23:t=2\/t=3
 ·repeat' first|(refine at_ ?_;conv=>whnf)|(refine ag (fun _=>?_) (fun _=>?_)<;>conv=>whnf)
  all_goals
   refine aF.loopF ac ae (fun((i,f,s):Nat×List Int×List Int)=>i<=n/\f.length=n/\s.length=n/\∀k,k<n->f.getD k 0=(if k<i then(k:Int)-1 else -1)/\s.getD k 0=if k<i then(k:Int)+1 else -1) (fun(i,_,_)=>[(25, .int .i64 (i:Int))]) (fun(_,f,s)=>GK n f s (List.replicate n (-1))) (fun(i,_,_)=>n-i) (0,List.replicate n (-1),List.replicate n (-1)) ⟨Nat.zero_le _,List.length_replicate,List.length_replicate,fun k hk=>by rw[il _ _ _ hk,if_neg (by simp),if_neg (by simp)];exact⟨rfl,rfl⟩⟩ ?_;conv=>whnf
   refine⟨sI,?_⟩
   rintro⟨i,f,s⟩ ⟨hi,hf,hs,hp⟩
   conv=>whnf
   repeat' first|(refine at_ ?_;conv=>whnf)|(refine ag (fun _=>?_) (fun _=>?_)<;>conv=>whnf)
   ·refine⟨(i+1,f.set i ((i:Int)-1),s.set i ((i:Int)+1)),sI,⟨by omega,by simpa using hf,by simpa using hs,fun k hk=>?_⟩,by dsimp only;omega⟩
    rw[b8,b8,(hp k hk).1,(hp k hk).2]
    constructor<;>(repeat' split)<;>omega
   all_goals
    refine⟨jx (by simpa using hf) (by simpa using hs) (by simp) (fun k hk=>?_) (by unfold ol;rw[decide_eq_true];intro h;omega),rfl⟩
    simp only[b8,List.length_set,(hp k hk).1,(hp k hk).2,il _ _ _ hk]
    unfold om oo pu
    refine⟨?_,?_,?_⟩<;>(repeat' split)<;>omega
 ·by_cases h4:t=4
  ·subst h4
   repeat' first|(refine at_ ?_;conv=>whnf)|(refine ag (fun _=>?_) (fun _=>?_)<;>conv=>whnf)
   by_cases hsh:shp l
   ·have he:=wm l hl
    rw[if_pos hsh] at he
    have hel:(lk l).length=l.length:=by simp[lk]
    have hpos:=wk hsh
    (refine oP (he) ?_;conv=>whnf)
    refine cz (by intro h;rw[h] at hel;simp at hel;omega) ?_
    conv=>whnf
    by_cases hln:l.length=n
    ·subst hln
     repeat' first|(refine at_ ?_;conv=>whnf)|(refine ag (fun _=>?_) (fun _=>?_)<;>conv=>whnf)
     refine aF.loopF ac ae (fun((i,f,s,p):Nat×List Int×List Int×List Int)=>i<=l.length/\f.length=l.length/\s.length=l.length/\p.length=l.length/\∀k,k<l.length->f.getD k 0=(if k<i then gY l k else -1)/\s.getD k 0=(if k<i then fj l k else -1)/\p.getD k 0=kA l k i) (fun(i,_,_,_)=>[(79, .int .i64 (i:Int))]) (fun(_,f,s,p)=>GK l.length f s p) (fun(i,_,_,_)=>l.length-i) (0,List.replicate l.length (-1),List.replicate l.length (-1),List.replicate l.length (-1)) ⟨Nat.zero_le _,List.length_replicate,List.length_replicate,List.length_replicate,fun k hk=>by rw[il _ _ _ hk,if_neg (by simp),if_neg (by simp)];exact⟨rfl,rfl,rfl⟩⟩ ?_;conv=>whnf
     refine⟨sI,?_⟩
     rintro⟨i,f,s,p⟩ ⟨hi,hf,hs,hp,hall⟩
     conv=>whnf
     refine ag (fun hlt=>?_) (fun hlt=>?_)<;>conv=>whnf
     ·have hil:i<l.length:=by omega
      by_cases h2:l.getD (i:Int).toNat 0=2
      ·obtain⟨a1,a2,a3,a4,a5⟩:=hsh.two hil (by simpa using h2)
       have hv:(lk l).getD ((i:Int)+1).toNat 0=(bc l (i+1):Int):=by
        rw[show((i:Int)+1).toNat=i+1 by omega]
        exact aH _ _ _ a1
       repeat' first|(refine at_ ?_;conv=>whnf)|(refine ag (fun _=>?_) (fun _=>?_)<;>conv=>whnf)
       refine⟨(i+1,f.set i ((i:Int)+1),s.set i ((lk l).getD ((i:Int)+1).toNat 0),(p.set ((i:Int)+1).toNat i).set ((lk l).getD ((i:Int)+1).toNat 0).toNat i),sI,⟨by omega,by simpa using hf,by simpa using hs,by simpa using hp,fun k hk=>?_⟩,by dsimp only;omega⟩
       obtain⟨b1,b2,b3⟩:=hall k hk
       rw[b8,b8,b8,b8,List.length_set,hv,b1,b2,b3,ik]
       rw[tN] at h2
       refine⟨?_,?_,?_⟩
       ·by_cases hik:i=k
        ·subst hik;rw[if_pos (by omega),if_pos (by omega),gY,if_pos h2];omega
        ·rw[if_neg (by omega)];(repeat' split)<;>first|rfl|omega
       ·by_cases hik:i=k
        ·subst hik;rw[if_pos (by omega),if_pos (by omega),fj,if_pos h2]
        ·rw[if_neg (by omega)];(repeat' split)<;>first|rfl|omega
       ·by_cases hpk:cA l k i=true
        ·rw[if_pos hpk]
         simp only[cA,Bool.and_eq_true,Bool.or_eq_true,decide_eq_true_eq] at hpk
         rcases hpk.2 with e|e
         ·by_cases hx:(bc l (i+1):Int).toNat=k
          ·rw[if_pos (by omega)]
          ·rw[if_neg (by omega),if_pos (by omega)]
         ·rw[if_pos (by omega)]
        ·rw[if_neg hpk]
         simp only[cA,h2,decide_true,Bool.true_and,Bool.or_eq_true,decide_eq_true_eq,not_or] at hpk
         rw[if_neg (by omega),if_neg (by omega)]
      ·repeat' first|(refine at_ ?_;conv=>whnf)|(refine ag (fun _=>?_) (fun _=>?_)<;>conv=>whnf)
       refine⟨(i+1,f,s,p),sI,⟨by omega,hf,hs,hp,fun k hk=>?_⟩,by dsimp only;omega⟩
       obtain⟨b1,b2,b3⟩:=hall k hk
       rw[tN] at h2
       rw[b1,b2,b3,ik,if_neg (show¬cA l k i=true by simp[cA];intro h;exact absurd h h2)]
       refine⟨?_,?_,rfl⟩
       ·by_cases hik:i=k
        ·subst hik;rw[if_neg (by omega),if_pos (by omega),gY,if_neg h2]
        ·(repeat' split)<;>first|rfl|omega
       ·by_cases hik:i=k
        ·subst hik;rw[if_neg (by omega),if_pos (by omega),fj,if_neg h2]
        ·(repeat' split)<;>first|rfl|omega
     ·obtain rfl:i=l.length:=by omega
      have hlk:ol 4 l l.length=true:=by unfold ol;rw[decide_eq_true];exact fun _=>⟨hsh,rfl⟩
      refine⟨jx hf hs hp (fun k hk=>?_) hlk.symm,rfl⟩
      obtain⟨b1,b2,b3⟩:=hall k hk
      rw[b1,b2,b3,if_pos hk,if_pos hk,zB hsh hk]
      simp[om,oo,pu,hlk]
    ·repeat' first|(refine at_ ?_;conv=>whnf)|(refine ag (fun _=>?_) (fun _=>?_)<;>conv=>whnf)
     have hlk:ol 4 l n=false:=by unfold ol;rw[decide_eq_false];exact fun h=>hln (h rfl).2
     refine⟨jx (by simp) (by simp) (by simp) (fun k hk=>?_) hlk.symm,rfl⟩
     rw[il _ _ _ hk,om,oo,pu,hlk]
     exact⟨rfl,rfl,rfl⟩
   ·have he:=wm l hl
    rw[if_neg hsh] at he
    (refine oP (he) ?_;conv=>whnf)
    repeat' first|(refine at_ ?_;conv=>whnf)|(refine ag (fun _=>?_) (fun _=>?_)<;>conv=>whnf)
    have hlk:ol 4 l n=false:=by unfold ol;rw[decide_eq_false];exact fun h=>hsh (h rfl).1
    refine⟨jx (by simp) (by simp) (by simp) (fun k hk=>?_) hlk.symm,rfl⟩
    rw[il _ _ _ hk,om,oo,pu,hlk]
    exact⟨rfl,rfl,rfl⟩
  ·repeat' first|(refine at_ ?_;conv=>whnf)|(refine ag (fun _=>?_) (fun _=>?_)<;>conv=>whnf)
   refine⟨jx (by simp) (by simp) (by simp) (fun k hk=>?_) (by unfold ol;rw[decide_eq_true];intro h;omega),rfl⟩
   rw[il _ _ _ hk,om,oo,pu,if_neg (by omega),if_neg (by omega),if_neg (by omega),if_neg (by omega),if_neg (by omega),if_neg (by omega),if_neg (by omega)]
   exact⟨rfl,rfl,rfl⟩
set_option maxRecDepth 100000
def HD (t:Int) (l:List Int) (n i:Int):Int×Int×Int:=
 if i<0\/n<=i then(-1,-1,-1) else if t=2 then(i-1,(if i+1=n then -1 else i+1),-1)
 else if t=3 then((if i-1<0 then n-1 else i-1),(if i+1=n then 0 else i+1),-1)
 else if t=4/\(l.length:Int)=n/\shp l then(gY l i.toNat,fj l i.toNat,bS l i.toNat) else(-1,-1,-1)
def GM (x:Int×Int×Int):AV:=.tup [.int .i64 x.1, .int .i64 x.2.1, .int .i64 x.2.2]
theorem gN {a b c:Int} {x:Int×Int×Int} (h:x=(a,b,c)):AV.tup [.int .i64 a, .int .i64 b, .int .i64 c]=GM x:=by rw[h];rfl
set_option maxRecDepth 100000
structure ay where
 shape:List Int
 states:List Int
 correct:Int
 sent:List Int
 faulty:List Int
 value:Int
def bd (c:ay):List AV:=[.sl 0 ao c.shape, .sl 0 ao c.states, .int .i64 c.correct, .sl 0 ao c.sent, .sl 0 ao c.faulty, .int .i64 c.value]
def aX:ay:=⟨[],[],0,[],[],0⟩
def bh (c:ay):Bool:=decide (100<c.shape.length)||decide (100<c.states.length)||decide (100<c.sent.length)||decide (100<c.faulty.length)
def cb:List Int->Int
 |[]=>0
 |x::l=>if x≠0 then x else cb l
theorem ll {l:List Int} {k:Nat} (h:k<l.length):cb (l.drop k)=if l.getD k 0≠0 then l.getD k 0 else cb (l.drop (k+1)):=by
 rw[fc h];rfl
theorem GN (l:List Int) (hl:l.length<=1000):ab Tryz.prog 165 [.sl 0 ao l] (fun u=>u= .int .i64 (cb l)):=by
 refine ab.intro ac ae Tryz.func165 rfl (by decide) ?_;(conv=>whnf)
 refine aF.loopF ac ae (fun k:Nat=>k<=l.length/\cb l=cb (l.drop k)) (fun k=>[(8, .int .i64 (k:Int))]) (fun _=>[]) (fun k=>l.length-k) 0 ⟨by omega,rfl⟩ ?_;conv=>whnf
 refine⟨sI,?_⟩
 rintro k ⟨hk,he⟩
 conv=>whnf
 repeat' first|(refine at_ ?_;conv=>whnf)|(refine ag (fun _=>?_) (fun _=>?_)<;>conv=>whnf)
 ·rename_i h1 h2
  rw[ll (by omega),if_pos (by simpa using h2)] at he
  exact⟨ah (by rw[he];rfl),rfl⟩
 ·rename_i h1 h2
  rw[ll (by omega),if_neg (by simpa using h2)] at he
  exact⟨k+1,sI,⟨by omega,he⟩,by dsimp only;omega⟩
 ·obtain rfl:k=l.length:=by omega
  rw[List.drop_length] at he
  exact⟨ah he.symm,rfl⟩
def Cu (a b:ay):Int:=cb [bK a.shape b.shape,bK a.states b.states,bK a.sent b.sent,bK a.faulty b.faulty,iP a.correct b.correct,iP a.value b.value]
theorem zI (a b:ay) (ha:bh a=false):ab Tryz.prog 76 [.agg (bd a), .agg (bd b)] (fun u=>u= .int .i64 (Cu a b)):=by
 have h0:a.shape.length<=100/\a.states.length<=100/\a.sent.length<=100/\a.faulty.length<=100:=by
  unfold bh at ha
  simp at ha
  omega
 refine ab.intro ac ae Tryz.func76 rfl (by decide) ?_;(conv=>whnf)
 refine ak rfl ?_
 conv=>whnf
 refine ak rfl ?_
 conv=>whnf
 refine dI ?_
 conv=>whnf
 (refine oC (jS a.shape b.shape (by omega)) ?_;conv=>whnf)
 (refine oC (jS a.states b.states (by omega)) ?_;conv=>whnf)
 (refine oC (jS a.sent b.sent (by omega)) ?_;conv=>whnf)
 (refine oC (jS a.faulty b.faulty (by omega)) ?_;conv=>whnf)
 (refine oC (iQ a.correct b.correct) ?_;conv=>whnf)
 (refine oC (iQ a.value b.value) ?_;conv=>whnf)
 refine cX ?_
 conv=>whnf
 (refine oC (GN _ (by simp)) ?_;conv=>whnf)
 exact⟨rfl,rfl⟩
theorem zJ (a b:List Int):bK b a=-bK a b:=by
 induction a generalizing b with
 |nil=>cases b<;>rfl
 |cons x xs ih=>
  cases b with
  |nil=>rfl
  |cons y ys=>
   simp only[bK]
   by_cases h1:x<y
   ·rw[if_neg (by omega),if_pos h1,if_pos h1];rfl
   ·by_cases h2:y<x
    ·rw[if_pos h2,if_neg h1,if_pos h2]
    ·rw[if_neg h2,if_neg h1,if_neg h1,if_neg h2,ih]
theorem xG (a:ay):Cu a a=0:=by
 simp[Cu,qa,cb,iP]
def Cw (x y z:Int):Prop:=(x<=0->y<=0->z<=0)/\(x=0->y=0->z=0)/\(x<0->y<=0->z<0)/\(x<=0->y<0->z<0)
theorem Cw.or {x y z:Int} {xs ys zs:List Int} (h:Cw x y z) (h':Cw (cb xs) (cb ys) (cb zs)):Cw (cb (x::xs)) (cb (y::ys)) (cb (z::zs)):=by
 obtain⟨a1,a2,a3,a4⟩:=h
 obtain⟨b1,b2,b3,b4⟩:=h'
 simp only[cb]
 refine⟨?_,?_,?_,?_⟩<;>(repeat' split)<;>omega
theorem Cw.z (a b c:Int):Cw (iP a b) (iP b c) (iP a c):=by
 unfold Cw iP
 refine⟨?_,?_,?_,?_⟩<;>(repeat' split)<;>omega
theorem Cw.l (a b c:List Int):Cw (bK a b) (bK b c) (bK a c):=by
 have tr:=zu.trans a b c
 have e1:bK a b=0->bK a c=bK b c:=fun h=>by rw[gK h]
 have e2:bK b c=0->bK a c=bK a b:=fun h=>by rw[gK h]
 have e3:bK a c=0->bK b c=-bK a b:=fun h=>by rw[gK h,<-zJ]
 refine⟨tr,?_,?_,?_⟩<;>omega
end Go.Proofs.YtekmminpfhacpaaGreatDoor
