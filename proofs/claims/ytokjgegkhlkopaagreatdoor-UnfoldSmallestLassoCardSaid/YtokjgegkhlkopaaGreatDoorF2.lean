import Derived.Test.YtokjgegkhlkopaaGreatDoorF1
set_option linter.unusedVariables false
set_option linter.unusedSimpArgs false
namespace Go.Proofs.YtokjgegkhlkopaaGreatDoor
def bV:Nat->List Int->Option (List Int)
 |0,l=>some l
 |_+1,[]=>none
 |n+1,x::xs=>if x=0 then bV n xs else if x=2 then bV (n+2) xs else none
theorem eD (l:List Int):bV 0 l=some l:=by cases l<;>rfl
theorem gg (n:Nat):bV (n+1) []=none:=rfl
theorem cw (n:Nat) (x:Int) (xs:List Int):bV (n+1) (x::xs)=if x=0 then bV n xs else if x=2 then bV (n+2) xs else none:=rfl
theorem gh:∀(l:List Int) (a b:Nat),bV (a+b) l=(bV a l).bind (bV b)
 |l,0,b=>by rw[Nat.zero_add,eD];rfl
 |[],a+1,b=>by rw[show a+1+b=(a+b)+1 by omega,gg,gg];rfl
 |x::xs,a+1,b=>by
  rw[show a+1+b=(a+b)+1 by omega,cw,cw]
  split
  ·exact gh xs a b
  ·split
   ·rw[show a+b+2=(a+2)+b by omega];exact gh xs (a+2) b
   ·rfl
theorem kx:∀(l:List Int) (n:Nat) (r:List Int),bV n l=some r->∃k,n<=k/\k<=l.length/\r=l.drop k
 |l,0,r,h=>by rw[eD] at h;cases h;exact⟨0,by omega,by omega,by simp⟩
 |[],n+1,r,h=>by rw[gg] at h;cases h
 |x::xs,n+1,r,h=>by
  rw[cw] at h
  split at h
  ·obtain⟨k,h1,h2,h3⟩:=kx xs n r h
   exact⟨k+1,by omega,by simp;omega,by simpa using h3⟩
  ·split at h
   ·obtain⟨k,h1,h2,h3⟩:=kx xs (n+2) r h
    exact⟨k+1,by omega,by simp;omega,by simpa using h3⟩
   ·cases h
def bI (l:List Int) (i:Nat):Nat:=match bV 1 (l.drop i) with
 |some r=>l.length-r.length
 |none=>0
theorem lz {l r:List Int} {i:Nat} (h:bV 1 (l.drop i)=some r):i<bI l i/\bI l i<=l.length/\r=l.drop (bI l i):=by
 obtain⟨k,h1,h2,h3⟩:=kx _ _ _ h
 have e:bI l i=l.length-r.length:=by unfold bI;rw[h]
 rw[List.drop_drop] at h3
 have hl:(l.drop i).length=l.length-i:=List.length_drop
 have hr:r.length=l.length-(i+k):=by rw[h3,List.length_drop]
 have e2:bI l i=i+k:=by omega
 exact⟨by omega,by omega,by rw[e2,h3]⟩
theorem gj {l:List Int} {i:Nat} (h:i<l.length):l.drop i=l.getD i 0::l.drop (i+1):=by
 rw[List.drop_eq_getElem_cons h,gD,gL h]
 rfl
theorem jl:∀(l:List Int) (n:Nat) (r:List Int) (k:Nat),bV n l=some r->k+r.length<l.length->∃r',bV 1 (l.drop k)=some r'/\r.length<=r'.length
 |l,0,r,k,h,hk=>by rw[eD] at h;cases h;omega
 |[],n+1,r,k,h,hk=>by rw[gg] at h;cases h
 |x::xs,n+1,r,0,h,hk=>by
  rw[show n+1=1+n by omega,gh] at h
  obtain⟨m,hm,hr⟩:=Option.bind_eq_some_iff.1 h
  obtain⟨j,_,_,hj⟩:=kx _ _ _ hr
  exact⟨m,hm,by rw[hj];simp⟩
 |x::xs,n+1,r,k+1,h,hk=>by
  rw[cw] at h
  simp only[List.length_cons] at hk
  split at h
  ·exact jl xs n r k h (by omega)
  ·split at h
   ·exact jl xs (n+2) r k h (by omega)
   ·cases h
def kO (l:List Int):Prop:=bV 1 l=some []
instance (l:List Int):Decidable (kO l):=inferInstanceAs (Decidable (bV 1 l=some []))
theorem kO.at {l:List Int} (h:kO l) {i:Nat} (hi:i<l.length):bV 1 (l.drop i)=some (l.drop (bI l i))/\i<bI l i/\bI l i<=l.length:=by
 obtain⟨r,hr,_⟩:=jl l 1 [] i h (by simpa using hi)
 obtain⟨h1,h2,h3⟩:=lz hr
 exact⟨by rw[hr,h3],h1,h2⟩
theorem kO.two {l:List Int} (h:kO l) {i:Nat} (hi:i<l.length) (h2:l.getD i 0=2):i+1<l.length/\i+1<bI l (i+1)/\bI l (i+1)<l.length/\bI l (bI l (i+1))=bI l i/\bI l (i+1)<bI l i:=by
 obtain⟨e,h3,h4⟩:=h.at hi
 rw[gj hi,cw 0,h2] at e
 simp only[show(2:Int)≠0 by decide,if_false,if_true] at e
 rw[show 0+2=1+1 from rfl,gh _ 1 1] at e
 obtain⟨m,hm,hr⟩:=Option.bind_eq_some_iff.1 e
 obtain⟨k1,k2,k3⟩:=lz hm
 have hne:bI l (i+1)<l.length:=by
  by_cases hh:bI l (i+1)<l.length
  ·exact hh
  ·rw[List.drop_eq_nil_of_le (by omega)] at k3
   subst k3;rw[gg] at hr;cases hr
 rw[k3] at hr
 obtain⟨j1,j2,j3⟩:=lz hr
 have hlen:=congrArg List.length j3
 simp only[List.length_drop] at hlen
 have:bI l (bI l (i+1))=bI l i:=by omega
 exact⟨by omega,k1,hne,this,by omega⟩
theorem kO.zeroTwo {l:List Int} (h:kO l) {i:Nat} (hi:i<l.length):l.getD i 0=0\/l.getD i 0=2:=by
 obtain⟨e,h3,h4⟩:=h.at hi
 rw[gj hi,cw 0] at e
 split at e
 ·exact .inl ‹_›
 ·split at e
  ·exact .inr ‹_›
  ·cases e
theorem kO.nest {l:List Int} (h:kO l) {i k:Nat} (hi:i<=k) (hk:k<bI l i) (hil:i<l.length):bI l k<=bI l i:=by
 obtain⟨e,h3,h4⟩:=h.at hil
 obtain⟨r',hr',hle⟩:=jl _ 1 _ (k-i) e (by simp only[List.length_drop];omega)
 rw[List.drop_drop,show i+(k-i)=k by omega] at hr'
 obtain⟨j1,j2,j3⟩:=lz hr'
 rw[j3] at hle
 simp only[List.length_drop] at hle
 omega
def dp (l:List Int) (j k:Nat):Bool:=decide (l.getD k 0=2)&&(decide (k+1=j)||decide (bI l (k+1)=j))
def mR (l:List Int) (j:Nat):Nat->Int
 |0=>-1
 |n+1=>if dp l j n then(n:Int) else mR l j n
theorem jS (l:List Int) (j n:Nat):mR l j (n+1)=if dp l j n then(n:Int) else mR l j n:=rfl
def jA (l:List Int) (i:Nat):Int:=if l.getD i 0=2 then((i+1:Nat):Int) else -1
def gA (l:List Int) (i:Nat):Int:=if l.getD i 0=2 then(bI l (i+1):Int) else -1
def cE (l:List Int) (i:Nat):Int:=mR l i i
theorem rg (l:List Int) (j n:Nat):mR l j n=-1\/∃k,k<n/\mR l j n=k/\dp l j k=true:=by
 induction n with
 |zero=>exact .inl rfl
 |succ n ih=>
  unfold mR
  split
  ·exact .inr ⟨n,by omega,rfl,‹_›⟩
  ·rcases ih with h|⟨k,h1,h2,h3⟩
   ·exact .inl h
   ·exact .inr ⟨k,by omega,h2,h3⟩
theorem AC {l:List Int} {j n k:Nat} (hk:k<n) (h:dp l j k=true) (hu:∀m,k<m->m<n->dp l j m=false):mR l j n=k:=by
 induction n with
 |zero=>omega
 |succ n ih=>
  unfold mR
  by_cases e:k=n
  ·subst e;rw[if_pos h]
  ·rw[if_neg (by rw[hu n (by omega) (by omega)];simp)]
   exact ih (by omega) fun m h1 h2=>hu m h1 (by omega)
theorem B9 {l:List Int} {j n m:Nat} (hnm:n<=m) (hu:∀k,n<=k->k<m->dp l j k=false):mR l j m=mR l j n:=by
 induction m with
 |zero=>rw[show n=0 by omega]
 |succ m ih=>
  by_cases e:n=m+1
  ·rw[e]
  ·rw[jS,if_neg (by rw[hu m (by omega) (by omega)];simp)]
   exact ih (by omega) fun k h1 h2=>hu k h1 (by omega)
theorem Ek {l:List Int} (h:kO l) {j k:Nat} (hk:k<l.length) (hp:dp l j k=true):k<j/\j<l.length:=by
 simp only[dp,Bool.and_eq_true,Bool.or_eq_true,decide_eq_true_eq] at hp
 obtain⟨h2,hp⟩:=hp
 obtain⟨a,b,c,d,e⟩:=h.two hk h2
 omega
theorem El {l:List Int} (h:kO l) {j:Nat} (hj:j<l.length):mR l j l.length=cE l j:=by
 unfold cE
 refine B9 (by omega) fun k h1 h2=>?_
 cases e:dp l j k
 ·rfl
 ·have:=Ek h h2 e;omega
theorem sZ {l:List Int} (h:kO l) {i:Nat} (hi:i<l.length) (h2:l.getD i 0=2):cE l (i+1)=i:=by
 unfold cE
 exact AC (by omega) (by simp[dp,h2,-List.getD_eq_getElem?_getD]) fun m h1 h3=>by omega
theorem rh {l:List Int} (h:kO l) {i:Nat} (hi:i<l.length) (h2:l.getD i 0=2):cE l (bI l (i+1))=i:=by
 obtain⟨a,b,c,d,e⟩:=h.two hi h2
 unfold cE
 refine AC (by omega) (by simp[dp,h2,-List.getD_eq_getElem?_getD]) fun m h1 h3=>?_
 cases hp:dp l (bI l (i+1)) m
 ·rfl
 ·simp only[dp,Bool.and_eq_true,Bool.or_eq_true,decide_eq_true_eq] at hp
  obtain⟨hm2,hp⟩:=hp
  obtain⟨a',b',c',d',e'⟩:=h.two (i:=m) (by omega) hm2
  have:=h.nest (i:=i+1) (k:=m) (by omega) h3 (by omega)
  omega
set_option maxRecDepth 100000
def bG (l:List Int):aX:=.row 3 0 aD l
theorem p6 {l l':List Int} (lm:b8) (h:l=l'):ie lm 400 (some (bG l)) (bG l'):=by subst h;rfl
theorem Em (k:Nat) (hn:k<=1000):an Tryz.prog 68 [.int .i64 (k:Int)] (ai.ofL []) (fun u M=>∃ℓ0,u= .row ℓ0 k 1/\M ℓ0=some (bG (List.replicate k (-1)))):=by
 refine an.intro ab ac [] Tryz.func68 rfl (by decide) ?_
 conv=>whnf
 rw[if_neg (by omega)]
 refine ww 0 aD 0 rfl (by dsimp only;omega) ?_
 rw[tN]
 conv=>whnf
 repeat' first|(refine at_ ?_;conv=>whnf)|(refine ah (fun _=>?_) (fun _=>?_)<;>conv=>whnf)
 refine aE.loop (fun i:Nat=>i<=k) (fun i=>(.top:: .top:: .top::(.row 7 k 1):: .top:: .top:: .top:: .top:: .top::(.int .i64 (k:Int))::(.int .i64 (i:Int))::T 7)) (fun i=>ai.ofL [(7,bG (List.replicate i (-1)++List.replicate (k-i) 0))]) (fun i=>k-i) 0 (by omega) (aM.by_ [(7, .old 7)] _ 400 rfl ⟨p6 _ (by simp),trivial⟩ (aa)) ?_
 intro i hi
 refine aZ ab ac _ _ _ _ ?_
 conv=>whnf
 repeat' first|(refine at_ ?_;conv=>whnf)|(refine ah (fun _=>?_) (fun _=>?_)<;>conv=>whnf)
 ·refine⟨i+1,(aM.by_ [(7, .old 7)] _ 400 rfl ⟨p6 _ ?_,trivial⟩ (aa)),by omega,Nat.sub_lt_sub_left (by omega) (by omega)⟩
  rw[tN,List.set_append_right _ _ (by simp),List.length_replicate,Nat.sub_self,List.replicate_succ',List.append_assoc]
  congr 1
  rw[show k-i=(k-(i+1))+1 by omega,List.replicate_succ]
  rfl
 ·obtain rfl:i=k:=by omega
  refine⟨7,rfl,?_⟩
  show some _=_
  simp only[Nat.sub_self,List.replicate_zero,List.append_nil]
def ri (l:List Int) (n:Nat) (row:List Int):List (Nat×aX):=
 [(0, .box 3 [.int .i64 (n:Int)]),(2, .box 36 [.fn 109 [.ptr 0 0, .pd [.sl 0 aD l], .ptr 2 0, .ptr 3 0]]),(3, .box 24 [.row 4 l.length 1]),(4,bG row)]
def LA:b8:=[(0, .old 0),(2, .old 2),(3, .old 3),(4, .old 4)]
def L9 (l:List Int) (n:Nat) (row:List Int):AV->ai->Prop:=fun u M=>∃n' row',dK LA 400 M (ri l n' row')/\row'.length=l.length/\n'<=l.length/\
 ((bV 1 (l.drop n)=some (l.drop n')/\u= .bool true/\n<n'/\∀k:Nat,row'.getD k 0=if n<=k/\k<n' then(bI l k:Int) else row.getD k 0)\/(bV 1 (l.drop n)=none/\u= .bool false))
theorem En {l:List Int} {i n:Nat} (hn:n<=l.length) (h:bV 1 (l.drop i)=some (l.drop n)):bI l i=n:=by
 obtain⟨h1,h2,h3⟩:=lz h
 have:=congrArg List.length h3
 simp only[List.length_drop] at this
 omega
theorem Ca {l:List Int} {n:Nat} (h:¬n<l.length):bV 1 (l.drop n)=none:=by
 rw[List.drop_eq_nil_of_le (by omega)];rfl
theorem Eo {l:List Int} {n:Nat} (h:n<l.length) (h0:l.getD n 0≠0) (h2:l.getD n 0≠2):bV 1 (l.drop n)=none:=by
 rw[gj h,cw 0,if_neg h0,if_neg h2]
theorem Ep {l:List Int} {n:Nat} (h:n<l.length) (h2:l.getD n 0=0\/l.getD n 0=2):bV 1 (l.drop n)=bV (l.getD n 0).toNat (l.drop (n+1)):=by
 rw[gj h,cw 0]
 rcases h2 with e|e
 ·rw[e];rfl
 ·rw[e];rfl
theorem zq {l:List Int} {a c n n2:Nat} (h:bV c (l.drop a)=some (l.drop n)) (h2:bV 1 (l.drop n)=some (l.drop n2)):bV (c+1) (l.drop a)=some (l.drop n2):=by
 rw[gh,h];exact h2
theorem zr {l:List Int} {a c d n:Nat} (h:bV c (l.drop a)=some (l.drop n)) (h2:bV 1 (l.drop n)=none) (hc:c<d):bV d (l.drop a)=none:=by
 rw[show d=c+(1+(d-c-1)) by omega,gh,h]
 show bV _ _=none
 rw[gh,h2];rfl
theorem L' (l:List Int) (hl:l.length<=1000):∀(m n:Nat) (row:List Int),l.length-n=m->n<=l.length->row.length=l.length->
  an Tryz.prog 109 [.ptr 0 0, .pd [.sl 0 aD l], .ptr 2 0, .ptr 3 0] (ai.ofL (ri l n row)) (L9 l n row):=by
 intro m
 induction m using Nat.strongRecOn with
 |_ m ih=>
  intro n row hm hn hr
  refine an.intro ab ac (ri l n row) Tryz.func109 rfl (by decide) ?_
  conv=>whnf
  by_cases hlt:n<l.length
  ·by_cases hv:l.getD n 0=0\/l.getD n 0=2
   ·have hw:=Ep hlt hv
    have hx:0<=l.getD n 0/\l.getD n 0<=2:=by omega
    have hto:((l.getD n 0).toNat:Int)=l.getD n 0:=by omega
    refine fI ?_
    conv=>whnf
    repeat' first|(refine at_ ?_;conv=>whnf)|(refine ah (fun _=>?_) (fun _=>?_)<;>conv=>whnf)
    ·rename_i h1 h2
     rw[tN] at h1 h2
     omega
    all_goals
     refine aE.loop (fun x:Nat×Nat×List Int=>x.1<=(l.getD n 0).toNat/\n+1<=x.2.1/\x.2.1<=l.length/\x.2.2.length=l.length/\bV x.1 (l.drop (n+1))=some (l.drop x.2.1)/\∀k:Nat,x.2.2.getD k 0=if n+1<=k/\k<x.2.1 then(bI l k:Int) else row.getD k 0)
      (fun x=>((.ptr 0 0)::(.pd [.sl 0 aD l])::(.ptr 2 0)::(.ptr 3 0):: .top::(.int .i64 (n:Int)):: .top:: .top:: .top:: .top:: .top:: .top:: .top:: .top:: .top:: .top:: .top:: .top:: .top:: .top:: .top:: .top:: .top:: .top:: .top:: .top:: .top:: .top:: .top:: .top::(.int .i64 (l.getD n 0))::(.int .i64 (x.1:Int))::T 9)) (fun x=>ai.ofL (ri l x.2.1 x.2.2)) (fun x=>(l.getD n 0).toNat-x.1) (0,n+1,row) ⟨by dsimp only;omega,by dsimp only;omega,by dsimp only;omega,hr,eD _,fun k=>by rw[if_neg (by dsimp only;omega)]⟩ (aM.by_ LA _ 400 rfl (aa) (aa)) ?_
     rintro⟨c,n1,row1⟩ ⟨hc,h1,h2,h3,h4,h5⟩
     dsimp only at hc h1 h2 h3 h4 h5⊢
     refine aZ ab ac _ _ _ _ ?_
     conv=>whnf
     refine ah (fun hcx=>?_) (fun hcx=>?_)<;>conv=>whnf
     ·refine an.call LA (ri l n1 row1) 400 rfl (aa) (aa) (ih (l.length-n1) (by omega) n1 row1 rfl h2 h3) ?_
      rintro u M' ⟨n2,row2,hm2,hl2,hn2,hh⟩
      rcases hh with ⟨e1,rfl,e2,e3⟩|⟨e1,rfl⟩
      ·refine⟨LA,ri l n2 row2, .bool true,rfl,hm2,rfl,?_⟩
       conv=>whnf
       repeat' first|(refine at_ ?_;conv=>whnf)|(refine ah (fun _=>?_) (fun _=>?_)<;>conv=>whnf)
       refine⟨(c+1,n2,row2),(aM.by_ LA _ 400 rfl (aa) (aa)),⟨by dsimp only;omega,by dsimp only;omega,hn2,hl2,zq h4 e1,fun k=>?_⟩,Nat.sub_lt_sub_left (by dsimp only;omega) (by dsimp only;omega)⟩
       dsimp only
       rw[e3 k,h5 k]
       by_cases ha:n1<=k/\k<n2
       ·rw[if_pos ha,if_pos (by omega)]
       ·rw[if_neg ha]
        by_cases hb:n+1<=k/\k<n1
        ·rw[if_pos hb,if_pos (by omega)]
        ·rw[if_neg hb,if_neg (by omega)]
      ·refine⟨LA,ri l n2 row2, .bool false,rfl,hm2,rfl,?_⟩
       conv=>whnf
       refine⟨n2,row2,(aa),hl2,hn2, .inr ⟨?_,rfl⟩⟩
       rw[hw]
       exact zr h4 e1 (by omega)
     ·have hc2:c=(l.getD n 0).toNat:=by omega
      rw[hc2,<-hw] at h4
      have he:=En h2 h4
      repeat' first|(refine at_ ?_;conv=>whnf)|(refine ah (fun _=>?_) (fun _=>?_)<;>conv=>whnf)
      refine⟨n1,row1.set n n1,(aa),by rw[List.length_set,h3],h2, .inl ⟨h4,rfl,by omega,fun k=>?_⟩⟩
      rw[gD,List.getElem?_set]
      by_cases hk:n=k
      ·subst hk
       rw[if_pos rfl,if_pos (by omega),if_pos (by omega),he]
       rfl
      ·rw[if_neg hk,<-gD,h5 k]
       by_cases hb:n+1<=k/\k<n1
       ·rw[if_pos hb,if_pos (by omega)]
       ·rw[if_neg hb,if_neg (by omega)]
   ·have hb:=Eo hlt (fun h=>hv (.inl h)) (fun h=>hv (.inr h))
    repeat' first|(refine at_ ?_;conv=>whnf)|(refine ah (fun _=>?_) (fun _=>?_)<;>conv=>whnf)
    ·exact⟨n,row,(aa),hr,hn, .inr ⟨hb,rfl⟩⟩
    all_goals
     exfalso
     simp only[tN] at*
     omega
  ·have hb:=Ca hlt
   repeat' first|(refine at_ ?_;conv=>whnf)|(refine ah (fun _=>?_) (fun _=>?_)<;>conv=>whnf)
   exact⟨n,row,(aa),hr,hn, .inr ⟨hb,rfl⟩⟩
set_option maxRecDepth 100000
theorem aB (l:List Int) (i k:Nat) (v:Int):(l.set i v).getD k 0=if i=k/\i<l.length then v else l.getD k 0:=by
 rw[gD,List.getElem?_set]
 by_cases h:i=k
 ·subst h
  by_cases h2:i<l.length
  ·simp[h2]
  ·simp[h2,gD]
 ·simp[h,gD]
theorem nM {l:List Int} {n:Nat} (hl:l.length=n) {g:Nat->Int} (h:∀k,k<n->l.getD k 0=g k):l=(List.range n).map g:=by
 apply List.ext_getElem
 ·simp[hl]
 ·intro i h1 h2
  have:=h i (by omega)
  rw[gD,gL h1] at this
  simpa using this
theorem jT (n k:Nat) (v:Int) (h:k<n):(List.replicate n v).getD k 0=v:=by
 simp[gD,List.getElem?_replicate,h]
theorem bi (n k:Nat) (g:Nat->Int) (h:k<n):((List.range n).map g).getD k 0=g k:=by
 simp[gD,h]
instance (l:List Int):Decidable (kO l):=inferInstanceAs (Decidable (bV 1 l=some []))
def tZ (l:List Int):List Int:=(List.range l.length).map fun i=>(bI l i:Int)
theorem Hi {l:List Int} (h:kO l):0<l.length:=by
 cases l with
 |nil=>cases h
 |cons x l=>simp
def Ma (l:List Int) (n:Nat) (row:List Int):AV->ai->Prop:=fun u M=>∃n' row',M=ai.ofL (ri l n' row')/\row'.length=l.length/\n'<=l.length/\
 ((bV 1 (l.drop n)=some (l.drop n')/\u= .bool true/\n<n'/\∀k:Nat,row'.getD k 0=if n<=k/\k<n' then(bI l k:Int) else row.getD k 0)\/(bV 1 (l.drop n)=none/\u= .bool false))
theorem Mb (l:List Int) (hl:l.length<=1000) (n:Nat) (row:List Int) (hn:n<=l.length) (hr:row.length=l.length):
  an Tryz.prog 109 [.ptr 0 0, .pd [.sl 0 aD l], .ptr 2 0, .ptr 3 0] (ai.ofL (ri l n row)) (Ma l n row):=by
 refine an.norm 400 (L' l hl _ n row rfl hn hr) ?_
 rintro u M' ⟨n2,row2,hm2,hl2,hn2,hh⟩
 refine⟨ri l n2 row2,u,rfl,hm2,?_,n2,row2,rfl,hl2,hn2,hh⟩
 rcases hh with ⟨_,rfl,_⟩|⟨_,rfl⟩<;>rfl
theorem I0 (l:List Int) (hl:l.length<=1000):ae Tryz.prog 69 [.sl 0 aD l] (fun u=>u=if kO l then .sl 0 aD (tZ l) else .nilsl):=by
 refine ae.intro ab ac Tryz.func69 rfl (by decide) ?_;(conv=>whnf)
 refine am rfl ?_
 conv=>whnf
 refine ww 0 aD 0 rfl (by dsimp only;omega) ?_
 rw[tN]
 conv=>whnf
 repeat' first|(refine at_ ?_;conv=>whnf)|(refine ah (fun _=>?_) (fun _=>?_)<;>conv=>whnf)
 refine an.call [(0, .old 4),(2, .old 5),(3, .old 3),(4, .old 8)] (ri l 0 (List.replicate l.length 0)) 400 rfl (aa) (aa) (Mb l hl 0 (List.replicate l.length 0) (by omega) (by simp)) ?_
 rintro u M' ⟨n2,row2,rfl,hl2,hn2,hh⟩
 rcases hh with ⟨h1,rfl,h2,h3⟩|⟨h1,rfl⟩
 ·refine⟨[(4, .old 0),(5, .old 2),(3, .old 3),(8, .old 4)],[(4, .box 3 [.int .i64 (n2:Int)]),(5, .box 36 [.fn 109 [.ptr 4 0, .pd [.sl 0 aD l], .ptr 5 0, .ptr 3 0]]),(3, .box 24 [.row 8 l.length 1]),(8,bG row2)], .bool true,rfl,(aa),rfl,?_⟩
  conv=>whnf
  rw[List.drop_zero] at h1
  repeat' first|(refine at_ ?_;conv=>whnf)|(refine ah (fun _=>?_) (fun _=>?_)<;>conv=>whnf)
  ·rename_i hne
   rw[if_neg]
   ·exact⟨rfl,rfl⟩
   ·intro hs
    rw[kO,h1,Option.some.injEq] at hs
    have:=congrArg List.length hs
    simp at this
    omega
  ·rename_i hne
   obtain rfl:n2=l.length:=by omega
   rw[List.drop_length] at h1
   rw[if_pos (show kO l from h1)]
   refine⟨IZ (nM hl2 fun k hk=>?_),rfl⟩
   rw[h3 k,if_pos (by omega)]
 ·refine⟨[(4, .old 0),(5, .old 2),(3, .old 3),(8, .old 4)],[(4, .box 3 [.int .i64 (n2:Int)]),(5, .box 36 [.fn 109 [.ptr 4 0, .pd [.sl 0 aD l], .ptr 5 0, .ptr 3 0]]),(3, .box 24 [.row 8 l.length 1]),(8,bG row2)], .bool false,rfl,(aa),rfl,?_⟩
  conv=>whnf
  rw[List.drop_zero] at h1
  repeat' first|(refine at_ ?_;conv=>whnf)|(refine ah (fun _=>?_) (fun _=>?_)<;>conv=>whnf)
  rw[if_neg (by rw[kO,h1];intro h;cases h)]
  exact⟨rfl,rfl⟩
def rj (t:Int) (l:List Int) (n:Nat):Bool:=decide (t=4->kO l/\l.length=n)
def rk (t:Int) (l:List Int) (n i:Nat):Int:=if t=2 then(i:Int)-1 else if t=3 then(if i=0 then(n:Int)-1 else(i:Int)-1) else if t=4/\rj t l n=true then jA l i else -1
def p7 (t:Int) (l:List Int) (n i:Nat):Int:=if t=2 then(if i+1=n then -1 else(i:Int)+1) else if t=3 then(if i+1=n then 0 else(i:Int)+1) else if t=4/\rj t l n=true then gA l i else -1
def s2 (t:Int) (l:List Int) (n i:Nat):Int:=if t=4/\rj t l n=true then cE l i else -1
def Er (t:Int) (l:List Int) (n:Nat):AV:=.agg [.sl 0 aD ((List.range n).map (rk t l n)), .sl 0 aD ((List.range n).map (p7 t l n)), .sl 0 aD ((List.range n).map (s2 t l n))]
theorem lA {t:Int} {l:List Int} {n:Nat} {f s p:List Int} {b:Bool} (hf:f.length=n) (hs:s.length=n) (hp:p.length=n) (h:∀k,k<n->f.getD k 0=rk t l n k/\s.getD k 0=p7 t l n k/\p.getD k 0=s2 t l n k) (hb:b=rj t l n):
  AV.tup [.agg [.sl 0 aD f, .sl 0 aD s, .sl 0 aD p], .bool b]= .tup [Er t l n, .bool (rj t l n)]:=by
 rw[hb,Er,nM hf fun k hk=>(h k hk).1,nM hs fun k hk=>(h k hk).2.1,nM hp fun k hk=>(h k hk).2.2]
def Mc (n:Nat) (f s p:List Int):List (Nat×aX):=[(6, .box 96 [.nilsl, .nilsl, .nilsl]),(8, .box 96 [.row 14 n 1, .row 16 n 1, .row 18 n 1]),(14,bG f),(16,bG s),(18,bG p)]
theorem Md (t:Int) (l:List Int) (n:Nat) (hl:l.length<=1000) (hn:n<=1000):ae Tryz.prog 38 [.int .i64 t, .sl 0 aD l, .int .i64 (n:Int)] (fun u=>u= .tup [Er t l n, .bool (rj t l n)]):=by
 refine ae.intro ab ac Tryz.func38 rfl (by decide) ?_;(conv=>whnf)
 refine an.fresh 14 (Em n hn) rfl (aa) ?_
 conv=>whnf
 refine an.fresh 16 (Em n hn) rfl (aa) ?_
 conv=>whnf
 refine an.fresh 18 (Em n hn) rfl (aa) ?_
 conv=>whnf
 by_cases h23:t=2\/t=3
 ·repeat' first|(refine at_ ?_;conv=>whnf)|(refine ah (fun _=>?_) (fun _=>?_)<;>conv=>whnf)
  all_goals
   refine aE.loopF ab ac (fun((i,f,s):Nat×List Int×List Int)=>i<=n/\f.length=n/\s.length=n/\∀k,k<n->f.getD k 0=(if k<i then(k:Int)-1 else -1)/\s.getD k 0=if k<i then(k:Int)+1 else -1) (fun(i,_,_)=>[(25, .int .i64 (i:Int))]) (fun(_,f,s)=>Mc n f s (List.replicate n (-1))) (fun(i,_,_)=>n-i) (0,List.replicate n (-1),List.replicate n (-1)) ⟨Nat.zero_le _,List.length_replicate,List.length_replicate,fun k hk=>by rw[jT _ _ _ hk,if_neg (by simp),if_neg (by simp)];exact⟨rfl,rfl⟩⟩ ?_;conv=>whnf
   refine⟨sI,?_⟩
   rintro⟨i,f,s⟩ ⟨hi,hf,hs,hp⟩
   conv=>whnf
   repeat' first|(refine at_ ?_;conv=>whnf)|(refine ah (fun _=>?_) (fun _=>?_)<;>conv=>whnf)
   ·refine⟨(i+1,f.set i ((i:Int)-1),s.set i ((i:Int)+1)),sI,⟨by omega,by simpa using hf,by simpa using hs,fun k hk=>?_⟩,by dsimp only;omega⟩
    rw[aB,aB,(hp k hk).1,(hp k hk).2]
    constructor<;>(repeat' split)<;>omega
   all_goals
    refine⟨lA (by simpa using hf) (by simpa using hs) (by simp) (fun k hk=>?_) (by unfold rj;rw[decide_eq_true];intro h;omega),rfl⟩
    simp only[aB,List.length_set,(hp k hk).1,(hp k hk).2,jT _ _ _ hk]
    unfold rk p7 s2
    refine⟨?_,?_,?_⟩<;>(repeat' split)<;>omega
 ·by_cases h4:t=4
  ·subst h4
   repeat' first|(refine at_ ?_;conv=>whnf)|(refine ah (fun _=>?_) (fun _=>?_)<;>conv=>whnf)
   by_cases hsh:kO l
   ·have he:=I0 l hl
    rw[if_pos hsh] at he
    have hel:(tZ l).length=l.length:=by simp[tZ]
    have hpos:=Hi hsh
    (refine oP (he) ?_;conv=>whnf)
    refine d7 (by intro h;rw[h] at hel;simp at hel;omega) ?_
    conv=>whnf
    by_cases hln:l.length=n
    ·subst hln
     repeat' first|(refine at_ ?_;conv=>whnf)|(refine ah (fun _=>?_) (fun _=>?_)<;>conv=>whnf)
     refine aE.loopF ab ac (fun((i,f,s,p):Nat×List Int×List Int×List Int)=>i<=l.length/\f.length=l.length/\s.length=l.length/\p.length=l.length/\∀k,k<l.length->f.getD k 0=(if k<i then jA l k else -1)/\s.getD k 0=(if k<i then gA l k else -1)/\p.getD k 0=mR l k i) (fun(i,_,_,_)=>[(79, .int .i64 (i:Int))]) (fun(_,f,s,p)=>Mc l.length f s p) (fun(i,_,_,_)=>l.length-i) (0,List.replicate l.length (-1),List.replicate l.length (-1),List.replicate l.length (-1)) ⟨Nat.zero_le _,List.length_replicate,List.length_replicate,List.length_replicate,fun k hk=>by rw[jT _ _ _ hk,if_neg (by simp),if_neg (by simp)];exact⟨rfl,rfl,rfl⟩⟩ ?_;conv=>whnf
     refine⟨sI,?_⟩
     rintro⟨i,f,s,p⟩ ⟨hi,hf,hs,hp,hall⟩
     conv=>whnf
     refine ah (fun hlt=>?_) (fun hlt=>?_)<;>conv=>whnf
     ·have hil:i<l.length:=by omega
      by_cases h2:l.getD (i:Int).toNat 0=2
      ·obtain⟨a1,a2,a3,a4,a5⟩:=hsh.two hil (by simpa using h2)
       have hv:(tZ l).getD ((i:Int)+1).toNat 0=(bI l (i+1):Int):=by
        rw[show((i:Int)+1).toNat=i+1 by omega]
        exact bi _ _ _ a1
       repeat' first|(refine at_ ?_;conv=>whnf)|(refine ah (fun _=>?_) (fun _=>?_)<;>conv=>whnf)
       refine⟨(i+1,f.set i ((i:Int)+1),s.set i ((tZ l).getD ((i:Int)+1).toNat 0),(p.set ((i:Int)+1).toNat i).set ((tZ l).getD ((i:Int)+1).toNat 0).toNat i),sI,⟨by omega,by simpa using hf,by simpa using hs,by simpa using hp,fun k hk=>?_⟩,by dsimp only;omega⟩
       obtain⟨b1,b2,b3⟩:=hall k hk
       rw[aB,aB,aB,aB,List.length_set,hv,b1,b2,b3,jS]
       rw[tN] at h2
       refine⟨?_,?_,?_⟩
       ·by_cases hik:i=k
        ·subst hik;rw[if_pos (by omega),if_pos (by omega),jA,if_pos h2];omega
        ·rw[if_neg (by omega)];(repeat' split)<;>first|rfl|omega
       ·by_cases hik:i=k
        ·subst hik;rw[if_pos (by omega),if_pos (by omega),gA,if_pos h2]
        ·rw[if_neg (by omega)];(repeat' split)<;>first|rfl|omega
       ·by_cases hpk:dp l k i=true
        ·rw[if_pos hpk]
         simp only[dp,Bool.and_eq_true,Bool.or_eq_true,decide_eq_true_eq] at hpk
         rcases hpk.2 with e|e
         ·by_cases hx:(bI l (i+1):Int).toNat=k
          ·rw[if_pos (by omega)]
          ·rw[if_neg (by omega),if_pos (by omega)]
         ·rw[if_pos (by omega)]
        ·rw[if_neg hpk]
         simp only[dp,h2,decide_true,Bool.true_and,Bool.or_eq_true,decide_eq_true_eq,not_or] at hpk
         rw[if_neg (by omega),if_neg (by omega)]
      ·repeat' first|(refine at_ ?_;conv=>whnf)|(refine ah (fun _=>?_) (fun _=>?_)<;>conv=>whnf)
       refine⟨(i+1,f,s,p),sI,⟨by omega,hf,hs,hp,fun k hk=>?_⟩,by dsimp only;omega⟩
       obtain⟨b1,b2,b3⟩:=hall k hk
       rw[tN] at h2
       rw[b1,b2,b3,jS,if_neg (show¬dp l k i=true by simp[dp];intro h;exact absurd h h2)]
       refine⟨?_,?_,rfl⟩
       ·by_cases hik:i=k
        ·subst hik;rw[if_neg (by omega),if_pos (by omega),jA,if_neg h2]
        ·(repeat' split)<;>first|rfl|omega
       ·by_cases hik:i=k
        ·subst hik;rw[if_neg (by omega),if_pos (by omega),gA,if_neg h2]
        ·(repeat' split)<;>first|rfl|omega
     ·obtain rfl:i=l.length:=by omega
      have hlk:rj 4 l l.length=true:=by unfold rj;rw[decide_eq_true];exact fun _=>⟨hsh,rfl⟩
      refine⟨lA hf hs hp (fun k hk=>?_) hlk.symm,rfl⟩
      obtain⟨b1,b2,b3⟩:=hall k hk
      rw[b1,b2,b3,if_pos hk,if_pos hk,El hsh hk]
      simp[rk,p7,s2,hlk]
    ·repeat' first|(refine at_ ?_;conv=>whnf)|(refine ah (fun _=>?_) (fun _=>?_)<;>conv=>whnf)
     have hlk:rj 4 l n=false:=by unfold rj;rw[decide_eq_false];exact fun h=>hln (h rfl).2
     refine⟨lA (by simp) (by simp) (by simp) (fun k hk=>?_) hlk.symm,rfl⟩
     rw[jT _ _ _ hk,rk,p7,s2,hlk]
     exact⟨rfl,rfl,rfl⟩
   ·have he:=I0 l hl
    rw[if_neg hsh] at he
    (refine oP (he) ?_;conv=>whnf)
    repeat' first|(refine at_ ?_;conv=>whnf)|(refine ah (fun _=>?_) (fun _=>?_)<;>conv=>whnf)
    have hlk:rj 4 l n=false:=by unfold rj;rw[decide_eq_false];exact fun h=>hsh (h rfl).1
    refine⟨lA (by simp) (by simp) (by simp) (fun k hk=>?_) hlk.symm,rfl⟩
    rw[jT _ _ _ hk,rk,p7,s2,hlk]
    exact⟨rfl,rfl,rfl⟩
  ·repeat' first|(refine at_ ?_;conv=>whnf)|(refine ah (fun _=>?_) (fun _=>?_)<;>conv=>whnf)
   refine⟨lA (by simp) (by simp) (by simp) (fun k hk=>?_) (by unfold rj;rw[decide_eq_true];intro h;omega),rfl⟩
   rw[jT _ _ _ hk,rk,p7,s2,if_neg (by omega),if_neg (by omega),if_neg (by omega),if_neg (by omega),if_neg (by omega),if_neg (by omega),if_neg (by omega)]
   exact⟨rfl,rfl,rfl⟩
set_option maxRecDepth 100000
def Ng (t:Int) (l:List Int) (n i:Int):Int×Int×Int:=
 if i<0\/n<=i then(-1,-1,-1) else if t=2 then(i-1,(if i+1=n then -1 else i+1),-1)
 else if t=3 then((if i-1<0 then n-1 else i-1),(if i+1=n then 0 else i+1),-1)
 else if t=4/\(l.length:Int)=n/\kO l then(jA l i.toNat,gA l i.toNat,cE l i.toNat) else(-1,-1,-1)
def Me (x:Int×Int×Int):AV:=.tup [.int .i64 x.1, .int .i64 x.2.1, .int .i64 x.2.2]
theorem jm {a b c:Int} {x:Int×Int×Int} (h:x=(a,b,c)):AV.tup [.int .i64 a, .int .i64 b, .int .i64 c]=Me x:=by rw[h];rfl
set_option maxRecDepth 100000
structure ap where
 shape:List Int
 states:List Int
 correct:Int
 sent:List Int
 faulty:List Int
 value:Int
def bg (c:ap):List AV:=[.sl 0 aD c.shape, .sl 0 aD c.states, .int .i64 c.correct, .sl 0 aD c.sent, .sl 0 aD c.faulty, .int .i64 c.value]
def aC:ap:=⟨[],[],0,[],[],0⟩
def bc (c:ap):Bool:=decide (100<c.shape.length)||decide (100<c.states.length)||decide (100<c.sent.length)||decide (100<c.faulty.length)
def cF:List Int->Int
 |[]=>0
 |x::l=>if x≠0 then x else cF l
theorem xb {l:List Int} {k:Nat} (h:k<l.length):cF (l.drop k)=if l.getD k 0≠0 then l.getD k 0 else cF (l.drop (k+1)):=by
 rw[gj h];rfl
def fX (a b:ap):Int:=cF [bE a.shape b.shape,bE a.states b.states,bE a.sent b.sent,bE a.faulty b.faulty,iZ a.correct b.correct,iZ a.value b.value]
theorem Es (a b c d:Int):bE [a,b] [c,d]=cF [iZ a c,iZ b d]:=by
 simp only[bE,cF,iZ]
 (repeat' split)<;>first|rfl|omega
theorem gB (x:Int) (l:List Int) (h:¬x≠0):cF (x::l)=cF l:=by rw[cF,if_neg h]
theorem rl (a b:ap) (ha:bc a=false):ae Tryz.prog 9 [.agg (bg a), .agg (bg b)] (fun u=>u= .int .i64 (fX a b)):=by
 have h0:a.shape.length<=100/\a.states.length<=100/\a.sent.length<=100/\a.faulty.length<=100:=by
  unfold bc at ha
  simp at ha
  omega
 refine ae.intro ab ac Tryz.func9 rfl (by decide) ?_;(conv=>whnf)
 refine am rfl ?_
 conv=>whnf
 refine am rfl ?_
 conv=>whnf
 (refine oP (cO a.shape b.shape (by omega)) ?_;conv=>whnf)
 refine ah (fun h1=>?_) (fun h1=>?_)<;>conv=>whnf
 ·exact⟨aj (by rw[fX,cF,if_pos h1]),rfl⟩
 (refine oP (cO a.states b.states (by omega)) ?_;conv=>whnf)
 refine ah (fun h2=>?_) (fun h2=>?_)<;>conv=>whnf
 ·exact⟨aj (by rw[fX,gB _ _ h1,cF,if_pos h2]),rfl⟩
 (refine oP (cO a.sent b.sent (by omega)) ?_;conv=>whnf)
 refine ah (fun h3=>?_) (fun h3=>?_)<;>conv=>whnf
 ·exact⟨aj (by rw[fX,gB _ _ h1,gB _ _ h2,cF,if_pos h3]),rfl⟩
 (refine oP (cO a.faulty b.faulty (by omega)) ?_;conv=>whnf)
 refine ah (fun h4=>?_) (fun h4=>?_)<;>conv=>whnf
 ·exact⟨aj (by rw[fX,gB _ _ h1,gB _ _ h2,gB _ _ h3,cF,if_pos h4]),rfl⟩
 refine an.hand 45 rfl ?_
 refine an.hand 50 rfl ?_
 (refine oP (cO [a.correct,a.value] [b.correct,b.value] (by simp)) ?_;conv=>whnf)
 exact⟨aj (by rw[Es,fX,gB _ _ h1,gB _ _ h2,gB _ _ h3,gB _ _ h4]),rfl⟩
theorem xd (a b:List Int):bE b a=-bE a b:=by
 induction a generalizing b with
 |nil=>cases b<;>rfl
 |cons x xs ih=>
  cases b with
  |nil=>rfl
  |cons y ys=>
   simp only[bE]
   by_cases h1:x<y
   ·rw[if_neg (by omega),if_pos h1,if_pos h1];rfl
   ·by_cases h2:y<x
    ·rw[if_pos h2,if_neg h1,if_pos h2]
    ·rw[if_neg h2,if_neg h1,if_neg h1,if_neg h2,ih]
theorem Et (a b:Int):iZ b a=-iZ a b:=by
 unfold iZ
 (repeat' split)<;>first|rfl|omega
theorem Hj (l m:List Int) (h:m=l.map (-·)):cF m=-cF l:=by
 subst h
 induction l with
 |nil=>rfl
 |cons x l ih=>
  simp only[List.map_cons,cF]
  by_cases hx:x=0
  ·subst hx;simpa using ih
  ·rw[if_pos (by omega),if_pos hx]
theorem rm (a b:ap):fX b a=-fX a b:=by
 refine Hj _ _ ?_
 simp only[List.map_cons,List.map_nil,<-xd,<-Et]
theorem l9 (a:ap):fX a a=0:=by
 simp[fX,tW,cF,iZ]
def Eu (x y z:Int):Prop:=(x<=0->y<=0->z<=0)/\(x=0->y=0->z=0)/\(x<0->y<=0->z<0)/\(x<=0->y<0->z<0)
theorem Eu.or {x y z:Int} {xs ys zs:List Int} (h:Eu x y z) (h':Eu (cF xs) (cF ys) (cF zs)):Eu (cF (x::xs)) (cF (y::ys)) (cF (z::zs)):=by
 obtain⟨a1,a2,a3,a4⟩:=h
 obtain⟨b1,b2,b3,b4⟩:=h'
 simp only[cF]
 refine⟨?_,?_,?_,?_⟩<;>(repeat' split)<;>omega
theorem Eu.z (a b c:Int):Eu (iZ a b) (iZ b c) (iZ a c):=by
 unfold Eu iZ
 refine⟨?_,?_,?_,?_⟩<;>(repeat' split)<;>omega
theorem Eu.l (a b c:List Int):Eu (bE a b) (bE b c) (bE a c):=by
 have tr:=ln.trans a b c
 have e1:bE a b=0->bE a c=bE b c:=fun h=>by rw[ii h]
 have e2:bE b c=0->bE a c=bE a b:=fun h=>by rw[ii h]
 have e3:bE a c=0->bE b c=-bE a b:=fun h=>by rw[ii h,<-xd]
 refine⟨tr,?_,?_,?_⟩<;>omega
theorem Ev (a b c:ap):Eu (fX a b) (fX b c) (fX a c):=
 .or (.l _ _ _) (.or (.l _ _ _) (.or (.l _ _ _) (.or (.l _ _ _) (.or (.z _ _ _) (.or (.z _ _ _) ⟨by decide,by decide,by decide,by decide⟩)))))
end Go.Proofs.YtokjgegkhlkopaaGreatDoor
