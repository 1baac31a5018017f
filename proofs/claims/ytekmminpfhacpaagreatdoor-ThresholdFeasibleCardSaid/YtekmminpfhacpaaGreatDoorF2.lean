import Derived.Test.YtekmminpfhacpaaGreatDoorF1
set_option linter.unusedVariables false
set_option linter.unusedSimpArgs false
namespace Go.Proofs.YtekmminpfhacpaaGreatDoor
def bW:Nat->List Int->Option (List Int)
 |0,l=>some l
 |_+1,[]=>none
 |n+1,x::xs=>if x=0 then bW n xs else if x=2 then bW (n+2) xs else none
theorem jl (l:List Int):bW 0 l=some l:=by cases l<;>rfl
theorem ko (n:Nat):bW (n+1) []=none:=rfl
theorem dH (n:Nat) (x:Int) (xs:List Int):bW (n+1) (x::xs)=if x=0 then bW n xs else if x=2 then bW (n+2) xs else none:=rfl
theorem gM:∀(l:List Int) (a b:Nat),bW (a+b) l=(bW a l).bind (bW b)
 |l,0,b=>by rw[Nat.zero_add,jl];rfl
 |[],a+1,b=>by rw[show a+1+b=(a+b)+1 by omega,ko,ko];rfl
 |x::xs,a+1,b=>by
  rw[show a+1+b=(a+b)+1 by omega,dH,dH]
  split
  ·exact gM xs a b
  ·split
   ·rw[show a+b+2=(a+2)+b by omega];exact gM xs (a+2) b
   ·rfl
theorem lk:∀(l:List Int) (n:Nat) (r:List Int),bW n l=some r->∃k,n<=k/\k<=l.length/\r=l.drop k
 |l,0,r,h=>by rw[jl] at h;cases h;exact⟨0,by omega,by omega,by simp⟩
 |[],n+1,r,h=>by rw[ko] at h;cases h
 |x::xs,n+1,r,h=>by
  rw[dH] at h
  split at h
  ·obtain⟨k,h1,h2,h3⟩:=lk xs n r h
   exact⟨k+1,by omega,by simp;omega,by simpa using h3⟩
  ·split at h
   ·obtain⟨k,h1,h2,h3⟩:=lk xs (n+2) r h
    exact⟨k+1,by omega,by simp;omega,by simpa using h3⟩
   ·cases h
def bJ (l:List Int) (i:Nat):Nat:=match bW 1 (l.drop i) with
 |some r=>l.length-r.length
 |none=>0
theorem mF {l r:List Int} {i:Nat} (h:bW 1 (l.drop i)=some r):i<bJ l i/\bJ l i<=l.length/\r=l.drop (bJ l i):=by
 obtain⟨k,h1,h2,h3⟩:=lk _ _ _ h
 have e:bJ l i=l.length-r.length:=by unfold bJ;rw[h]
 rw[List.drop_drop] at h3
 have hl:(l.drop i).length=l.length-i:=List.length_drop
 have hr:r.length=l.length-(i+k):=by rw[h3,List.length_drop]
 have e2:bJ l i=i+k:=by omega
 exact⟨by omega,by omega,by rw[e2,h3]⟩
theorem i5 {l:List Int} {i:Nat} (h:i<l.length):l.drop i=l.getD i 0::l.drop (i+1):=by
 rw[List.drop_eq_getElem_cons h,gD,gL h]
 rfl
theorem jL:∀(l:List Int) (n:Nat) (r:List Int) (k:Nat),bW n l=some r->k+r.length<l.length->∃r',bW 1 (l.drop k)=some r'/\r.length<=r'.length
 |l,0,r,k,h,hk=>by rw[jl] at h;cases h;omega
 |[],n+1,r,k,h,hk=>by rw[ko] at h;cases h
 |x::xs,n+1,r,0,h,hk=>by
  rw[show n+1=1+n by omega,gM] at h
  obtain⟨m,hm,hr⟩:=Option.bind_eq_some_iff.1 h
  obtain⟨j,_,_,hj⟩:=lk _ _ _ hr
  exact⟨m,hm,by rw[hj];simp⟩
 |x::xs,n+1,r,k+1,h,hk=>by
  rw[dH] at h
  simp only[List.length_cons] at hk
  split at h
  ·exact jL xs n r k h (by omega)
  ·split at h
   ·exact jL xs (n+2) r k h (by omega)
   ·cases h
def shp (l:List Int):Prop:=bW 1 l=some []
instance (l:List Int):Decidable (shp l):=inferInstanceAs (Decidable (bW 1 l=some []))
theorem shp.at {l:List Int} (h:shp l) {i:Nat} (hi:i<l.length):bW 1 (l.drop i)=some (l.drop (bJ l i))/\i<bJ l i/\bJ l i<=l.length:=by
 obtain⟨r,hr,_⟩:=jL l 1 [] i h (by simpa using hi)
 obtain⟨h1,h2,h3⟩:=mF hr
 exact⟨by rw[hr,h3],h1,h2⟩
theorem shp.two {l:List Int} (h:shp l) {i:Nat} (hi:i<l.length) (h2:l.getD i 0=2):i+1<l.length/\i+1<bJ l (i+1)/\bJ l (i+1)<l.length/\bJ l (bJ l (i+1))=bJ l i/\bJ l (i+1)<bJ l i:=by
 obtain⟨e,h3,h4⟩:=h.at hi
 rw[i5 hi,dH 0,h2] at e
 simp only[show(2:Int)≠0 by decide,if_false,if_true] at e
 rw[show 0+2=1+1 from rfl,gM _ 1 1] at e
 obtain⟨m,hm,hr⟩:=Option.bind_eq_some_iff.1 e
 obtain⟨k1,k2,k3⟩:=mF hm
 have hne:bJ l (i+1)<l.length:=by
  by_cases hh:bJ l (i+1)<l.length
  ·exact hh
  ·rw[List.drop_eq_nil_of_le (by omega)] at k3
   subst k3;rw[ko] at hr;cases hr
 rw[k3] at hr
 obtain⟨j1,j2,j3⟩:=mF hr
 have hlen:=congrArg List.length j3
 simp only[List.length_drop] at hlen
 have:bJ l (bJ l (i+1))=bJ l i:=by omega
 exact⟨by omega,k1,hne,this,by omega⟩
theorem shp.zeroTwo {l:List Int} (h:shp l) {i:Nat} (hi:i<l.length):l.getD i 0=0\/l.getD i 0=2:=by
 obtain⟨e,h3,h4⟩:=h.at hi
 rw[i5 hi,dH 0] at e
 split at e
 ·exact .inl ‹_›
 ·split at e
  ·exact .inr ‹_›
  ·cases e
theorem shp.nest {l:List Int} (h:shp l) {i k:Nat} (hi:i<=k) (hk:k<bJ l i) (hil:i<l.length):bJ l k<=bJ l i:=by
 obtain⟨e,h3,h4⟩:=h.at hil
 obtain⟨r',hr',hle⟩:=jL _ 1 _ (k-i) e (by simp only[List.length_drop];omega)
 rw[List.drop_drop,show i+(k-i)=k by omega] at hr'
 obtain⟨j1,j2,j3⟩:=mF hr'
 rw[j3] at hle
 simp only[List.length_drop] at hle
 omega
def ge (l:List Int) (j k:Nat):Bool:=decide (l.getD k 0=2)&&(decide (k+1=j)||decide (bJ l (k+1)=j))
def qw (l:List Int) (j:Nat):Nat->Int
 |0=>-1
 |n+1=>if ge l j n then(n:Int) else qw l j n
theorem qx (l:List Int) (j n:Nat):qw l j (n+1)=if ge l j n then(n:Int) else qw l j n:=rfl
def ot (l:List Int) (i:Nat):Int:=if l.getD i 0=2 then((i+1:Nat):Int) else -1
def ll (l:List Int) (i:Nat):Int:=if l.getD i 0=2 then(bJ l (i+1):Int) else -1
def cO (l:List Int) (i:Nat):Int:=qw l i i
theorem tw (l:List Int) (j n:Nat):qw l j n=-1\/∃k,k<n/\qw l j n=k/\ge l j k=true:=by
 induction n with
 |zero=>exact .inl rfl
 |succ n ih=>
  unfold qw
  split
  ·exact .inr ⟨n,by omega,rfl,‹_›⟩
  ·rcases ih with h|⟨k,h1,h2,h3⟩
   ·exact .inl h
   ·exact .inr ⟨k,by omega,h2,h3⟩
theorem CE {l:List Int} {j n k:Nat} (hk:k<n) (h:ge l j k=true) (hu:∀m,k<m->m<n->ge l j m=false):qw l j n=k:=by
 induction n with
 |zero=>omega
 |succ n ih=>
  unfold qw
  by_cases e:k=n
  ·subst e;rw[if_pos h]
  ·rw[if_neg (by rw[hu n (by omega) (by omega)];simp)]
   exact ih (by omega) fun m h1 h2=>hu m h1 (by omega)
theorem Ev {l:List Int} {j n m:Nat} (hnm:n<=m) (hu:∀k,n<=k->k<m->ge l j k=false):qw l j m=qw l j n:=by
 induction m with
 |zero=>rw[show n=0 by omega]
 |succ m ih=>
  by_cases e:n=m+1
  ·rw[e]
  ·rw[qx,if_neg (by rw[hu m (by omega) (by omega)];simp)]
   exact ih (by omega) fun k h1 h2=>hu k h1 (by omega)
theorem Gj {l:List Int} (h:shp l) {j k:Nat} (hk:k<l.length) (hp:ge l j k=true):k<j/\j<l.length:=by
 simp only[ge,Bool.and_eq_true,Bool.or_eq_true,decide_eq_true_eq] at hp
 obtain⟨h2,hp⟩:=hp
 obtain⟨a,b,c,d,e⟩:=h.two hk h2
 omega
theorem Gk {l:List Int} (h:shp l) {j:Nat} (hj:j<l.length):qw l j l.length=cO l j:=by
 unfold cO
 refine Ev (by omega) fun k h1 h2=>?_
 cases e:ge l j k
 ·rfl
 ·have:=Gj h h2 e;omega
theorem uB {l:List Int} (h:shp l) {i:Nat} (hi:i<l.length) (h2:l.getD i 0=2):cO l (i+1)=i:=by
 unfold cO
 exact CE (by omega) (by simp[ge,h2,-List.getD_eq_getElem?_getD]) fun m h1 h3=>by omega
theorem tx {l:List Int} (h:shp l) {i:Nat} (hi:i<l.length) (h2:l.getD i 0=2):cO l (bJ l (i+1))=i:=by
 obtain⟨a,b,c,d,e⟩:=h.two hi h2
 unfold cO
 refine CE (by omega) (by simp[ge,h2,-List.getD_eq_getElem?_getD]) fun m h1 h3=>?_
 cases hp:ge l (bJ l (i+1)) m
 ·rfl
 ·simp only[ge,Bool.and_eq_true,Bool.or_eq_true,decide_eq_true_eq] at hp
  obtain⟨hm2,hp⟩:=hp
  obtain⟨a',b',c',d',e'⟩:=h.two (i:=m) (by omega) hm2
  have:=h.nest (i:=i+1) (k:=m) (by omega) h3 (by omega)
  omega
set_option maxRecDepth 100000
def cw (l:List Int):aU:=.row 3 0 ak l
theorem CF {l l':List Int} (lm:aV) (h:l=l'):jx lm 400 (some (cw l)) (cw l'):=by subst h;rfl
theorem Gm (k:Nat) (hn:k<=1000):aj Tryz.prog 277 [.int .i64 (k:Int)] (ac.ofL []) (fun u M=>∃ℓ0,u= .row ℓ0 k 1/\M ℓ0=some (cw (List.replicate k (-1)))):=by
 refine aj.intro ae ag [] Tryz.func277 rfl (by decide) ?_
 conv=>whnf
 rw[if_neg (by omega)]
 refine Cd 0 ak 0 rfl (by dsimp only;omega) ?_
 rw[tN]
 conv=>whnf
 repeat' first|(refine at_ ?_;conv=>whnf)|(refine ai (fun _=>?_) (fun _=>?_)<;>conv=>whnf)
 refine a8.loop (fun i:Nat=>i<=k) (fun i=>(.top:: .top:: .top::(.row 7 k 1):: .top:: .top:: .top:: .top:: .top::(.int .i64 (k:Int))::(.int .i64 (i:Int))::T 7)) (fun i=>ac.ofL [(7,cw (List.replicate i (-1)++List.replicate (k-i) 0))]) (fun i=>k-i) 0 (by omega) (bd.by_ [(7, .old 7)] _ 400 rfl ⟨CF _ (by simp),trivial⟩ (aa)) ?_
 intro i hi
 refine fY ae ag _ _ _ _ ?_
 conv=>whnf
 repeat' first|(refine at_ ?_;conv=>whnf)|(refine ai (fun _=>?_) (fun _=>?_)<;>conv=>whnf)
 ·refine⟨i+1,(bd.by_ [(7, .old 7)] _ 400 rfl ⟨CF _ ?_,trivial⟩ (aa)),by omega,Nat.sub_lt_sub_left (by omega) (by omega)⟩
  rw[tN,List.set_append_right _ _ (by simp),List.length_replicate,Nat.sub_self,List.replicate_succ',List.append_assoc]
  congr 1
  rw[show k-i=(k-(i+1))+1 by omega,List.replicate_succ]
  rfl
 ·obtain rfl:i=k:=by omega
  refine⟨7,rfl,?_⟩
  show some _=_
  simp only[Nat.sub_self,List.replicate_zero,List.append_nil]
def tz (l:List Int) (n:Nat) (row:List Int):List (Nat×aU):=
 [(0, .box 3 [.int .i64 (n:Int)]),(2, .box 43 [.fn 241 [.ptr 0 0, .pd [.sl 0 ak l], .ptr 2 0, .ptr 3 0]]),(3, .box 24 [.row 4 l.length 1]),(4,cw row)]
def PK:aV:=[(0, .old 0),(2, .old 2),(3, .old 3),(4, .old 4)]
def P5 (l:List Int) (n:Nat) (row:List Int):AV->ac->Prop:=fun u M=>∃n' row',bD PK 400 M (tz l n' row')/\row'.length=l.length/\n'<=l.length/\
 ((bW 1 (l.drop n)=some (l.drop n')/\u= .bool true/\n<n'/\∀k:Nat,row'.getD k 0=if n<=k/\k<n' then(bJ l k:Int) else row.getD k 0)\/(bW 1 (l.drop n)=none/\u= .bool false))
theorem Gn {l:List Int} {i n:Nat} (hn:n<=l.length) (h:bW 1 (l.drop i)=some (l.drop n)):bJ l i=n:=by
 obtain⟨h1,h2,h3⟩:=mF h
 have:=congrArg List.length h3
 simp only[List.length_drop] at this
 omega
theorem Ew {l:List Int} {n:Nat} (h:¬n<l.length):bW 1 (l.drop n)=none:=by
 rw[List.drop_eq_nil_of_le (by omega)];rfl
theorem Gp {l:List Int} {n:Nat} (h:n<l.length) (h0:l.getD n 0≠0) (h2:l.getD n 0≠2):bW 1 (l.drop n)=none:=by
 rw[i5 h,dH 0,if_neg h0,if_neg h2]
theorem Gq {l:List Int} {n:Nat} (h:n<l.length) (h2:l.getD n 0=0\/l.getD n 0=2):bW 1 (l.drop n)=bW (l.getD n 0).toNat (l.drop (n+1)):=by
 rw[i5 h,dH 0]
 rcases h2 with e|e
 ·rw[e];rfl
 ·rw[e];rfl
theorem A7 {l:List Int} {a c n n2:Nat} (h:bW c (l.drop a)=some (l.drop n)) (h2:bW 1 (l.drop n)=some (l.drop n2)):bW (c+1) (l.drop a)=some (l.drop n2):=by
 rw[gM,h];exact h2
theorem A8 {l:List Int} {a c d n:Nat} (h:bW c (l.drop a)=some (l.drop n)) (h2:bW 1 (l.drop n)=none) (hc:c<d):bW d (l.drop a)=none:=by
 rw[show d=c+(1+(d-c-1)) by omega,gM,h]
 show bW _ _=none
 rw[gM,h2];rfl
theorem P6 (l:List Int) (hl:l.length<=1000):∀(m n:Nat) (row:List Int),l.length-n=m->n<=l.length->row.length=l.length->
  aj Tryz.prog 241 [.ptr 0 0, .pd [.sl 0 ak l], .ptr 2 0, .ptr 3 0] (ac.ofL (tz l n row)) (P5 l n row):=by
 intro m
 induction m using Nat.strongRecOn with
 |_ m ih=>
  intro n row hm hn hr
  refine aj.intro ae ag (tz l n row) Tryz.func241 rfl (by decide) ?_
  conv=>whnf
  by_cases hlt:n<l.length
  ·by_cases hv:l.getD n 0=0\/l.getD n 0=2
   ·have hw:=Gq hlt hv
    have hx:0<=l.getD n 0/\l.getD n 0<=2:=by omega
    have hto:((l.getD n 0).toNat:Int)=l.getD n 0:=by omega
    refine fI ?_
    conv=>whnf
    repeat' first|(refine at_ ?_;conv=>whnf)|(refine ai (fun _=>?_) (fun _=>?_)<;>conv=>whnf)
    ·rename_i h1 h2
     rw[tN] at h1 h2
     omega
    all_goals
     refine a8.loop (fun x:Nat×Nat×List Int=>x.1<=(l.getD n 0).toNat/\n+1<=x.2.1/\x.2.1<=l.length/\x.2.2.length=l.length/\bW x.1 (l.drop (n+1))=some (l.drop x.2.1)/\∀k:Nat,x.2.2.getD k 0=if n+1<=k/\k<x.2.1 then(bJ l k:Int) else row.getD k 0)
      (fun x=>((.ptr 0 0)::(.pd [.sl 0 ak l])::(.ptr 2 0)::(.ptr 3 0):: .top::(.int .i64 (n:Int)):: .top:: .top:: .top:: .top:: .top:: .top:: .top:: .top:: .top:: .top:: .top:: .top:: .top:: .top:: .top:: .top:: .top:: .top:: .top:: .top:: .top:: .top:: .top:: .top::(.int .i64 (l.getD n 0))::(.int .i64 (x.1:Int))::T 9)) (fun x=>ac.ofL (tz l x.2.1 x.2.2)) (fun x=>(l.getD n 0).toNat-x.1) (0,n+1,row) ⟨by dsimp only;omega,by dsimp only;omega,by dsimp only;omega,hr,jl _,fun k=>by rw[if_neg (by dsimp only;omega)]⟩ (bd.by_ PK _ 400 rfl (aa) (aa)) ?_
     rintro⟨c,n1,row1⟩ ⟨hc,h1,h2,h3,h4,h5⟩
     dsimp only at hc h1 h2 h3 h4 h5⊢
     refine fY ae ag _ _ _ _ ?_
     conv=>whnf
     refine ai (fun hcx=>?_) (fun hcx=>?_)<;>conv=>whnf
     ·refine aj.call PK (tz l n1 row1) 400 rfl (aa) (aa) (ih (l.length-n1) (by omega) n1 row1 rfl h2 h3) ?_
      rintro u M' ⟨n2,row2,hm2,hl2,hn2,hh⟩
      rcases hh with ⟨e1,rfl,e2,e3⟩|⟨e1,rfl⟩
      ·refine⟨PK,tz l n2 row2, .bool true,rfl,hm2,rfl,?_⟩
       conv=>whnf
       repeat' first|(refine at_ ?_;conv=>whnf)|(refine ai (fun _=>?_) (fun _=>?_)<;>conv=>whnf)
       refine⟨(c+1,n2,row2),(bd.by_ PK _ 400 rfl (aa) (aa)),⟨by dsimp only;omega,by dsimp only;omega,hn2,hl2,A7 h4 e1,fun k=>?_⟩,Nat.sub_lt_sub_left (by dsimp only;omega) (by dsimp only;omega)⟩
       dsimp only
       rw[e3 k,h5 k]
       by_cases ha:n1<=k/\k<n2
       ·rw[if_pos ha,if_pos (by omega)]
       ·rw[if_neg ha]
        by_cases hb:n+1<=k/\k<n1
        ·rw[if_pos hb,if_pos (by omega)]
        ·rw[if_neg hb,if_neg (by omega)]
      ·refine⟨PK,tz l n2 row2, .bool false,rfl,hm2,rfl,?_⟩
       conv=>whnf
       refine⟨n2,row2,(aa),hl2,hn2, .inr ⟨?_,rfl⟩⟩
       rw[hw]
       exact A8 h4 e1 (by omega)
     ·have hc2:c=(l.getD n 0).toNat:=by omega
      rw[hc2,<-hw] at h4
      have he:=Gn h2 h4
      repeat' first|(refine at_ ?_;conv=>whnf)|(refine ai (fun _=>?_) (fun _=>?_)<;>conv=>whnf)
      refine⟨n1,row1.set n n1,(aa),by rw[List.length_set,h3],h2, .inl ⟨h4,rfl,by omega,fun k=>?_⟩⟩
      rw[gD,List.getElem?_set]
      by_cases hk:n=k
      ·subst hk
       rw[if_pos rfl,if_pos (by omega),if_pos (by omega),he]
       rfl
      ·rw[if_neg hk,<-gD,h5 k]
       by_cases hb:n+1<=k/\k<n1
       ·rw[if_pos hb,if_pos (by omega)]
       ·rw[if_neg hb,if_neg (by omega)]
   ·have hb:=Gp hlt (fun h=>hv (.inl h)) (fun h=>hv (.inr h))
    repeat' first|(refine at_ ?_;conv=>whnf)|(refine ai (fun _=>?_) (fun _=>?_)<;>conv=>whnf)
    ·exact⟨n,row,(aa),hr,hn, .inr ⟨hb,rfl⟩⟩
    all_goals
     exfalso
     simp only[tN] at*
     omega
  ·have hb:=Ew hlt
   repeat' first|(refine at_ ?_;conv=>whnf)|(refine ai (fun _=>?_) (fun _=>?_)<;>conv=>whnf)
   exact⟨n,row,(aa),hr,hn, .inr ⟨hb,rfl⟩⟩
set_option maxRecDepth 100000
theorem dU (l:List Int) (i k:Nat) (v:Int):(l.set i v).getD k 0=if i=k/\i<l.length then v else l.getD k 0:=by
 rw[gD,List.getElem?_set]
 by_cases h:i=k
 ·subst h
  by_cases h2:i<l.length
  ·simp[h2]
  ·simp[h2,gD]
 ·simp[h,gD]
theorem pj {l:List Int} {n:Nat} (hl:l.length=n) {g:Nat->Int} (h:∀k,k<n->l.getD k 0=g k):l=(List.range n).map g:=by
 apply List.ext_getElem
 ·simp[hl]
 ·intro i h1 h2
  have:=h i (by omega)
  rw[gD,gL h1] at this
  simpa using this
theorem kp (n k:Nat) (v:Int) (h:k<n):(List.replicate n v).getD k 0=v:=by
 simp[gD,List.getElem?_replicate,h]
theorem aR (n k:Nat) (g:Nat->Int) (h:k<n):((List.range n).map g).getD k 0=g k:=by
 simp[gD,h]
instance (l:List Int):Decidable (shp l):=inferInstanceAs (Decidable (bW 1 l=some []))
def pk (l:List Int):List Int:=(List.range l.length).map fun i=>(bJ l i:Int)
theorem CG {l:List Int} (h:shp l):0<l.length:=by
 cases l with
 |nil=>cases h
 |cons x l=>simp
def P7 (l:List Int) (n:Nat) (row:List Int):AV->ac->Prop:=fun u M=>∃n' row',M=ac.ofL (tz l n' row')/\row'.length=l.length/\n'<=l.length/\
 ((bW 1 (l.drop n)=some (l.drop n')/\u= .bool true/\n<n'/\∀k:Nat,row'.getD k 0=if n<=k/\k<n' then(bJ l k:Int) else row.getD k 0)\/(bW 1 (l.drop n)=none/\u= .bool false))
theorem P8 (l:List Int) (hl:l.length<=1000) (n:Nat) (row:List Int) (hn:n<=l.length) (hr:row.length=l.length):
  aj Tryz.prog 241 [.ptr 0 0, .pd [.sl 0 ak l], .ptr 2 0, .ptr 3 0] (ac.ofL (tz l n row)) (P7 l n row):=by
 refine aj.norm 400 (P6 l hl _ n row rfl hn hr) ?_
 rintro u M' ⟨n2,row2,hm2,hl2,hn2,hh⟩
 refine⟨tz l n2 row2,u,rfl,hm2,?_,n2,row2,rfl,hl2,hn2,hh⟩
 rcases hh with ⟨_,rfl,_⟩|⟨_,rfl⟩<;>rfl
theorem CH (l:List Int) (hl:l.length<=1000):ab Tryz.prog 160 [.sl 0 ak l] (fun u=>u=if shp l then .sl 0 ak (pk l) else .nilsl):=by
 refine ab.intro ae ag Tryz.func160 rfl (by decide) ?_;(conv=>whnf)
 refine ar rfl ?_
 conv=>whnf
 refine Cd 0 ak 0 rfl (by dsimp only;omega) ?_
 rw[tN]
 conv=>whnf
 repeat' first|(refine at_ ?_;conv=>whnf)|(refine ai (fun _=>?_) (fun _=>?_)<;>conv=>whnf)
 refine aj.call [(0, .old 4),(2, .old 5),(3, .old 3),(4, .old 8)] (tz l 0 (List.replicate l.length 0)) 400 rfl (aa) (aa) (P8 l hl 0 (List.replicate l.length 0) (by omega) (by simp)) ?_
 rintro u M' ⟨n2,row2,rfl,hl2,hn2,hh⟩
 rcases hh with ⟨h1,rfl,h2,h3⟩|⟨h1,rfl⟩
 ·refine⟨[(4, .old 0),(5, .old 2),(3, .old 3),(8, .old 4)],[(4, .box 3 [.int .i64 (n2:Int)]),(5, .box 43 [.fn 241 [.ptr 4 0, .pd [.sl 0 ak l], .ptr 5 0, .ptr 3 0]]),(3, .box 24 [.row 8 l.length 1]),(8,cw row2)], .bool true,rfl,(aa),rfl,?_⟩
  conv=>whnf
  rw[List.drop_zero] at h1
  repeat' first|(refine at_ ?_;conv=>whnf)|(refine ai (fun _=>?_) (fun _=>?_)<;>conv=>whnf)
  ·rename_i hne
   rw[if_neg]
   ·exact⟨rfl,rfl⟩
   ·intro hs
    rw[shp,h1,Option.some.injEq] at hs
    have:=congrArg List.length hs
    simp at this
    omega
  ·rename_i hne
   obtain rfl:n2=l.length:=by omega
   rw[List.drop_length] at h1
   rw[if_pos (show shp l from h1)]
   refine⟨Mq (pj hl2 fun k hk=>?_),rfl⟩
   rw[h3 k,if_pos (by omega)]
 ·refine⟨[(4, .old 0),(5, .old 2),(3, .old 3),(8, .old 4)],[(4, .box 3 [.int .i64 (n2:Int)]),(5, .box 43 [.fn 241 [.ptr 4 0, .pd [.sl 0 ak l], .ptr 5 0, .ptr 3 0]]),(3, .box 24 [.row 8 l.length 1]),(8,cw row2)], .bool false,rfl,(aa),rfl,?_⟩
  conv=>whnf
  rw[List.drop_zero] at h1
  repeat' first|(refine at_ ?_;conv=>whnf)|(refine ai (fun _=>?_) (fun _=>?_)<;>conv=>whnf)
  rw[if_neg (by rw[shp,h1];intro h;cases h)]
  exact⟨rfl,rfl⟩
def wM (t:Int) (l:List Int) (n:Nat):Bool:=decide (t=4->shp l/\l.length=n)
def wN (t:Int) (l:List Int) (n i:Nat):Int:=if t=2 then(i:Int)-1 else if t=3 then(if i=0 then(n:Int)-1 else(i:Int)-1) else if t=4/\wM t l n=true then ot l i else -1
def wO (t:Int) (l:List Int) (n i:Nat):Int:=if t=2 then(if i+1=n then -1 else(i:Int)+1) else if t=3 then(if i+1=n then 0 else(i:Int)+1) else if t=4/\wM t l n=true then ll l i else -1
def yT (t:Int) (l:List Int) (n i:Nat):Int:=if t=4/\wM t l n=true then cO l i else -1
def Gr (t:Int) (l:List Int) (n:Nat):AV:=.agg [.sl 0 ak ((List.range n).map (wN t l n)), .sl 0 ak ((List.range n).map (wO t l n)), .sl 0 ak ((List.range n).map (yT t l n))]
theorem mG {t:Int} {l:List Int} {n:Nat} {f s p:List Int} {b:Bool} (hf:f.length=n) (hs:s.length=n) (hp:p.length=n) (h:∀k,k<n->f.getD k 0=wN t l n k/\s.getD k 0=wO t l n k/\p.getD k 0=yT t l n k) (hb:b=wM t l n):
  AV.tup [.agg [.sl 0 ak f, .sl 0 ak s, .sl 0 ak p], .bool b]= .tup [Gr t l n, .bool (wM t l n)]:=by
 rw[hb,Gr,pj hf fun k hk=>(h k hk).1,pj hs fun k hk=>(h k hk).2.1,pj hp fun k hk=>(h k hk).2.2]
def P9 (n:Nat) (f s p:List Int):List (Nat×aU):=[(6, .box 228 [.nilsl, .nilsl, .nilsl]),(8, .box 228 [.row 14 n 1, .row 16 n 1, .row 18 n 1]),(14,cw f),(16,cw s),(18,cw p)]
theorem P' (t:Int) (l:List Int) (n:Nat) (hl:l.length<=1000) (hn:n<=1000):ab Tryz.prog 238 [.int .i64 t, .sl 0 ak l, .int .i64 (n:Int)] (fun u=>u= .tup [Gr t l n, .bool (wM t l n)]):=by
 refine ab.intro ae ag Tryz.func238 rfl (by decide) ?_;(conv=>whnf)
 refine aj.fresh 14 (Gm n hn) rfl (aa) ?_
 conv=>whnf
 refine aj.fresh 16 (Gm n hn) rfl (aa) ?_
 conv=>whnf
 refine aj.fresh 18 (Gm n hn) rfl (aa) ?_
 conv=>whnf
 by_cases h23:t=2\/t=3
 ·repeat' first|(refine at_ ?_;conv=>whnf)|(refine ai (fun _=>?_) (fun _=>?_)<;>conv=>whnf)
  all_goals
   refine a8.loopF ae ag (fun((i,f,s):Nat×List Int×List Int)=>i<=n/\f.length=n/\s.length=n/\∀k,k<n->f.getD k 0=(if k<i then(k:Int)-1 else -1)/\s.getD k 0=if k<i then(k:Int)+1 else -1) (fun(i,_,_)=>[(25, .int .i64 (i:Int))]) (fun(_,f,s)=>P9 n f s (List.replicate n (-1))) (fun(i,_,_)=>n-i) (0,List.replicate n (-1),List.replicate n (-1)) ⟨Nat.zero_le _,List.length_replicate,List.length_replicate,fun k hk=>by rw[kp _ _ _ hk,if_neg (by simp),if_neg (by simp)];exact⟨rfl,rfl⟩⟩ ?_;conv=>whnf
   refine⟨sI,?_⟩
   rintro⟨i,f,s⟩ ⟨hi,hf,hs,hp⟩
   conv=>whnf
   repeat' first|(refine at_ ?_;conv=>whnf)|(refine ai (fun _=>?_) (fun _=>?_)<;>conv=>whnf)
   ·refine⟨(i+1,f.set i ((i:Int)-1),s.set i ((i:Int)+1)),sI,⟨by omega,by simpa using hf,by simpa using hs,fun k hk=>?_⟩,by dsimp only;omega⟩
    rw[dU,dU,(hp k hk).1,(hp k hk).2]
    constructor<;>(repeat' split)<;>omega
   all_goals
    refine⟨mG (by simpa using hf) (by simpa using hs) (by simp) (fun k hk=>?_) (by unfold wM;rw[decide_eq_true];intro h;omega),rfl⟩
    simp only[dU,List.length_set,(hp k hk).1,(hp k hk).2,kp _ _ _ hk]
    unfold wN wO yT
    refine⟨?_,?_,?_⟩<;>(repeat' split)<;>omega
 ·by_cases h4:t=4
  ·subst h4
   repeat' first|(refine at_ ?_;conv=>whnf)|(refine ai (fun _=>?_) (fun _=>?_)<;>conv=>whnf)
   by_cases hsh:shp l
   ·have he:=CH l hl
    rw[if_pos hsh] at he
    have hel:(pk l).length=l.length:=by simp[pk]
    have hpos:=CG hsh
    (refine oP (he) ?_;conv=>whnf)
    refine bp (by intro h;rw[h] at hel;simp at hel;omega) ?_
    conv=>whnf
    by_cases hln:l.length=n
    ·subst hln
     repeat' first|(refine at_ ?_;conv=>whnf)|(refine ai (fun _=>?_) (fun _=>?_)<;>conv=>whnf)
     refine a8.loopF ae ag (fun((i,f,s,p):Nat×List Int×List Int×List Int)=>i<=l.length/\f.length=l.length/\s.length=l.length/\p.length=l.length/\∀k,k<l.length->f.getD k 0=(if k<i then ot l k else -1)/\s.getD k 0=(if k<i then ll l k else -1)/\p.getD k 0=qw l k i) (fun(i,_,_,_)=>[(79, .int .i64 (i:Int))]) (fun(_,f,s,p)=>P9 l.length f s p) (fun(i,_,_,_)=>l.length-i) (0,List.replicate l.length (-1),List.replicate l.length (-1),List.replicate l.length (-1)) ⟨Nat.zero_le _,List.length_replicate,List.length_replicate,List.length_replicate,fun k hk=>by rw[kp _ _ _ hk,if_neg (by simp),if_neg (by simp)];exact⟨rfl,rfl,rfl⟩⟩ ?_;conv=>whnf
     refine⟨sI,?_⟩
     rintro⟨i,f,s,p⟩ ⟨hi,hf,hs,hp,hall⟩
     conv=>whnf
     refine ai (fun hlt=>?_) (fun hlt=>?_)<;>conv=>whnf
     ·have hil:i<l.length:=by omega
      by_cases h2:l.getD (i:Int).toNat 0=2
      ·obtain⟨a1,a2,a3,a4,a5⟩:=hsh.two hil (by simpa using h2)
       have hv:(pk l).getD ((i:Int)+1).toNat 0=(bJ l (i+1):Int):=by
        rw[show((i:Int)+1).toNat=i+1 by omega]
        exact aR _ _ _ a1
       repeat' first|(refine at_ ?_;conv=>whnf)|(refine ai (fun _=>?_) (fun _=>?_)<;>conv=>whnf)
       refine⟨(i+1,f.set i ((i:Int)+1),s.set i ((pk l).getD ((i:Int)+1).toNat 0),(p.set ((i:Int)+1).toNat i).set ((pk l).getD ((i:Int)+1).toNat 0).toNat i),sI,⟨by omega,by simpa using hf,by simpa using hs,by simpa using hp,fun k hk=>?_⟩,by dsimp only;omega⟩
       obtain⟨b1,b2,b3⟩:=hall k hk
       rw[dU,dU,dU,dU,List.length_set,hv,b1,b2,b3,qx]
       rw[tN] at h2
       refine⟨?_,?_,?_⟩
       ·by_cases hik:i=k
        ·subst hik;rw[if_pos (by omega),if_pos (by omega),ot,if_pos h2];omega
        ·rw[if_neg (by omega)];(repeat' split)<;>first|rfl|omega
       ·by_cases hik:i=k
        ·subst hik;rw[if_pos (by omega),if_pos (by omega),ll,if_pos h2]
        ·rw[if_neg (by omega)];(repeat' split)<;>first|rfl|omega
       ·by_cases hpk:ge l k i=true
        ·rw[if_pos hpk]
         simp only[ge,Bool.and_eq_true,Bool.or_eq_true,decide_eq_true_eq] at hpk
         rcases hpk.2 with e|e
         ·by_cases hx:(bJ l (i+1):Int).toNat=k
          ·rw[if_pos (by omega)]
          ·rw[if_neg (by omega),if_pos (by omega)]
         ·rw[if_pos (by omega)]
        ·rw[if_neg hpk]
         simp only[ge,h2,decide_true,Bool.true_and,Bool.or_eq_true,decide_eq_true_eq,not_or] at hpk
         rw[if_neg (by omega),if_neg (by omega)]
      ·repeat' first|(refine at_ ?_;conv=>whnf)|(refine ai (fun _=>?_) (fun _=>?_)<;>conv=>whnf)
       refine⟨(i+1,f,s,p),sI,⟨by omega,hf,hs,hp,fun k hk=>?_⟩,by dsimp only;omega⟩
       obtain⟨b1,b2,b3⟩:=hall k hk
       rw[tN] at h2
       rw[b1,b2,b3,qx,if_neg (show¬ge l k i=true by simp[ge];intro h;exact absurd h h2)]
       refine⟨?_,?_,rfl⟩
       ·by_cases hik:i=k
        ·subst hik;rw[if_neg (by omega),if_pos (by omega),ot,if_neg h2]
        ·(repeat' split)<;>first|rfl|omega
       ·by_cases hik:i=k
        ·subst hik;rw[if_neg (by omega),if_pos (by omega),ll,if_neg h2]
        ·(repeat' split)<;>first|rfl|omega
     ·obtain rfl:i=l.length:=by omega
      have hlk:wM 4 l l.length=true:=by unfold wM;rw[decide_eq_true];exact fun _=>⟨hsh,rfl⟩
      refine⟨mG hf hs hp (fun k hk=>?_) hlk.symm,rfl⟩
      obtain⟨b1,b2,b3⟩:=hall k hk
      rw[b1,b2,b3,if_pos hk,if_pos hk,Gk hsh hk]
      simp[wN,wO,yT,hlk]
    ·repeat' first|(refine at_ ?_;conv=>whnf)|(refine ai (fun _=>?_) (fun _=>?_)<;>conv=>whnf)
     have hlk:wM 4 l n=false:=by unfold wM;rw[decide_eq_false];exact fun h=>hln (h rfl).2
     refine⟨mG (by simp) (by simp) (by simp) (fun k hk=>?_) hlk.symm,rfl⟩
     rw[kp _ _ _ hk,wN,wO,yT,hlk]
     exact⟨rfl,rfl,rfl⟩
   ·have he:=CH l hl
    rw[if_neg hsh] at he
    (refine oP (he) ?_;conv=>whnf)
    repeat' first|(refine at_ ?_;conv=>whnf)|(refine ai (fun _=>?_) (fun _=>?_)<;>conv=>whnf)
    have hlk:wM 4 l n=false:=by unfold wM;rw[decide_eq_false];exact fun h=>hsh (h rfl).1
    refine⟨mG (by simp) (by simp) (by simp) (fun k hk=>?_) hlk.symm,rfl⟩
    rw[kp _ _ _ hk,wN,wO,yT,hlk]
    exact⟨rfl,rfl,rfl⟩
  ·repeat' first|(refine at_ ?_;conv=>whnf)|(refine ai (fun _=>?_) (fun _=>?_)<;>conv=>whnf)
   refine⟨mG (by simp) (by simp) (by simp) (fun k hk=>?_) (by unfold wM;rw[decide_eq_true];intro h;omega),rfl⟩
   rw[kp _ _ _ hk,wN,wO,yT,if_neg (by omega),if_neg (by omega),if_neg (by omega),if_neg (by omega),if_neg (by omega),if_neg (by omega),if_neg (by omega)]
   exact⟨rfl,rfl,rfl⟩
set_option maxRecDepth 100000
set_option maxRecDepth 100000
structure aD where
 shape:List Int
 states:List Int
 correct:Int
 sent:List Int
 faulty:List Int
 value:Int
def cy (c:aD):List AV:=[.sl 0 ak c.shape, .sl 0 ak c.states, .int .i64 c.correct, .sl 0 ak c.sent, .sl 0 ak c.faulty, .int .i64 c.value]
def cf:aD:=⟨[],[],0,[],[],0⟩
def dA (c:aD):Bool:=decide (100<c.shape.length)||decide (100<c.states.length)||decide (100<c.sent.length)||decide (100<c.faulty.length)
def fF:List Int->Int
 |[]=>0
 |x::l=>if x≠0 then x else fF l
theorem yU {l:List Int} {k:Nat} (h:k<l.length):fF (l.drop k)=if l.getD k 0≠0 then l.getD k 0 else fF (l.drop (k+1)):=by
 rw[i5 h];rfl
theorem Gs (a b:List Int):fo b a=-fo a b:=by
 induction a generalizing b with
 |nil=>cases b<;>rfl
 |cons x xs ih=>
  cases b with
  |nil=>rfl
  |cons y ys=>
   simp only[fo]
   by_cases h1:x<y
   ·rw[if_neg (by omega),if_pos h1,if_pos h1];rfl
   ·by_cases h2:y<x
    ·rw[if_pos h2,if_neg h1,if_pos h2]
    ·rw[if_neg h2,if_neg h1,if_neg h1,if_neg h2,ih]
def Kv (x y z:Int):Prop:=(x<=0->y<=0->z<=0)/\(x=0->y=0->z=0)/\(x<0->y<=0->z<0)/\(x<=0->y<0->z<0)
theorem Kv.or {x y z:Int} {xs ys zs:List Int} (h:Kv x y z) (h':Kv (fF xs) (fF ys) (fF zs)):Kv (fF (x::xs)) (fF (y::ys)) (fF (z::zs)):=by
 obtain⟨a1,a2,a3,a4⟩:=h
 obtain⟨b1,b2,b3,b4⟩:=h'
 simp only[fF]
 refine⟨?_,?_,?_,?_⟩<;>(repeat' split)<;>omega
theorem Kv.z (a b c:Int):Kv (wK a b) (wK b c) (wK a c):=by
 unfold Kv wK
 refine⟨?_,?_,?_,?_⟩<;>(repeat' split)<;>omega
theorem Kv.l (a b c:List Int):Kv (fo a b) (fo b c) (fo a c):=by
 have tr:=Gh.trans a b c
 have e1:fo a b=0->fo a c=fo b c:=fun h=>by rw[rR h]
 have e2:fo b c=0->fo a c=fo a b:=fun h=>by rw[rR h]
 have e3:fo a c=0->fo b c=-fo a b:=fun h=>by rw[rR h,<-Gs]
 refine⟨tr,?_,?_,?_⟩<;>omega
end Go.Proofs.YtekmminpfhacpaaGreatDoor
