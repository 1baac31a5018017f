import Derived.Test.YtblcpnmnibcbbaaGreatDoorF1
set_option linter.unusedVariables false
set_option linter.unusedSimpArgs false
namespace Go.Proofs.YtblcpnmnibcbbaaGreatDoor
def bN:Nat->List Int->Option (List Int)
 |0,l=>some l
 |_+1,[]=>none
 |n+1,x::xs=>if x=0 then bN n xs else if x=2 then bN (n+2) xs else none
theorem dW (l:List Int):bN 0 l=some l:=by cases l<;>rfl
theorem fH (n:Nat):bN (n+1) []=none:=rfl
theorem cn (n:Nat) (x:Int) (xs:List Int):bN (n+1) (x::xs)=if x=0 then bN n xs else if x=2 then bN (n+2) xs else none:=rfl
theorem fJ:∀(l:List Int) (a b:Nat),bN (a+b) l=(bN a l).bind (bN b)
 |l,0,b=>by rw[Nat.zero_add,dW];rfl
 |[],a+1,b=>by rw[show a+1+b=(a+b)+1 by omega,fH,fH];rfl
 |x::xs,a+1,b=>by
  rw[show a+1+b=(a+b)+1 by omega,cn,cn]
  split
  ·exact fJ xs a b
  ·split
   ·rw[show a+b+2=(a+2)+b by omega];exact fJ xs (a+2) b
   ·rfl
theorem jw:∀(l:List Int) (n:Nat) (r:List Int),bN n l=some r->∃k,n<=k/\k<=l.length/\r=l.drop k
 |l,0,r,h=>by rw[dW] at h;cases h;exact⟨0,by omega,by omega,by simp⟩
 |[],n+1,r,h=>by rw[fH] at h;cases h
 |x::xs,n+1,r,h=>by
  rw[cn] at h
  split at h
  ·obtain⟨k,h1,h2,h3⟩:=jw xs n r h
   exact⟨k+1,by omega,by simp;omega,by simpa using h3⟩
  ·split at h
   ·obtain⟨k,h1,h2,h3⟩:=jw xs (n+2) r h
    exact⟨k+1,by omega,by simp;omega,by simpa using h3⟩
   ·cases h
def bF (l:List Int) (i:Nat):Nat:=match bN 1 (l.drop i) with
 |some r=>l.length-r.length
 |none=>0
theorem kw {l r:List Int} {i:Nat} (h:bN 1 (l.drop i)=some r):i<bF l i/\bF l i<=l.length/\r=l.drop (bF l i):=by
 obtain⟨k,h1,h2,h3⟩:=jw _ _ _ h
 have e:bF l i=l.length-r.length:=by unfold bF;rw[h]
 rw[List.drop_drop] at h3
 have hl:(l.drop i).length=l.length-i:=List.length_drop
 have hr:r.length=l.length-(i+k):=by rw[h3,List.length_drop]
 have e2:bF l i=i+k:=by omega
 exact⟨by omega,by omega,by rw[e2,h3]⟩
theorem fK {l:List Int} {i:Nat} (h:i<l.length):l.drop i=l.getD i 0::l.drop (i+1):=by
 rw[List.drop_eq_getElem_cons h,gD,gL h]
 rfl
theorem io:∀(l:List Int) (n:Nat) (r:List Int) (k:Nat),bN n l=some r->k+r.length<l.length->∃r',bN 1 (l.drop k)=some r'/\r.length<=r'.length
 |l,0,r,k,h,hk=>by rw[dW] at h;cases h;omega
 |[],n+1,r,k,h,hk=>by rw[fH] at h;cases h
 |x::xs,n+1,r,0,h,hk=>by
  rw[show n+1=1+n by omega,fJ] at h
  obtain⟨m,hm,hr⟩:=Option.bind_eq_some_iff.1 h
  obtain⟨j,_,_,hj⟩:=jw _ _ _ hr
  exact⟨m,hm,by rw[hj];simp⟩
 |x::xs,n+1,r,k+1,h,hk=>by
  rw[cn] at h
  simp only[List.length_cons] at hk
  split at h
  ·exact io xs n r k h (by omega)
  ·split at h
   ·exact io xs (n+2) r k h (by omega)
   ·cases h
def ji (l:List Int):Prop:=bN 1 l=some []
instance (l:List Int):Decidable (ji l):=inferInstanceAs (Decidable (bN 1 l=some []))
theorem ji.at {l:List Int} (h:ji l) {i:Nat} (hi:i<l.length):bN 1 (l.drop i)=some (l.drop (bF l i))/\i<bF l i/\bF l i<=l.length:=by
 obtain⟨r,hr,_⟩:=io l 1 [] i h (by simpa using hi)
 obtain⟨h1,h2,h3⟩:=kw hr
 exact⟨by rw[hr,h3],h1,h2⟩
theorem ji.two {l:List Int} (h:ji l) {i:Nat} (hi:i<l.length) (h2:l.getD i 0=2):i+1<l.length/\i+1<bF l (i+1)/\bF l (i+1)<l.length/\bF l (bF l (i+1))=bF l i/\bF l (i+1)<bF l i:=by
 obtain⟨e,h3,h4⟩:=h.at hi
 rw[fK hi,cn 0,h2] at e
 simp only[show(2:Int)≠0 by decide,if_false,if_true] at e
 rw[show 0+2=1+1 from rfl,fJ _ 1 1] at e
 obtain⟨m,hm,hr⟩:=Option.bind_eq_some_iff.1 e
 obtain⟨k1,k2,k3⟩:=kw hm
 have hne:bF l (i+1)<l.length:=by
  by_cases hh:bF l (i+1)<l.length
  ·exact hh
  ·rw[List.drop_eq_nil_of_le (by omega)] at k3
   subst k3;rw[fH] at hr;cases hr
 rw[k3] at hr
 obtain⟨j1,j2,j3⟩:=kw hr
 have hlen:=congrArg List.length j3
 simp only[List.length_drop] at hlen
 have:bF l (bF l (i+1))=bF l i:=by omega
 exact⟨by omega,k1,hne,this,by omega⟩
theorem ji.zeroTwo {l:List Int} (h:ji l) {i:Nat} (hi:i<l.length):l.getD i 0=0\/l.getD i 0=2:=by
 obtain⟨e,h3,h4⟩:=h.at hi
 rw[fK hi,cn 0] at e
 split at e
 ·exact .inl ‹_›
 ·split at e
  ·exact .inr ‹_›
  ·cases e
theorem ji.nest {l:List Int} (h:ji l) {i k:Nat} (hi:i<=k) (hk:k<bF l i) (hil:i<l.length):bF l k<=bF l i:=by
 obtain⟨e,h3,h4⟩:=h.at hil
 obtain⟨r',hr',hle⟩:=io _ 1 _ (k-i) e (by simp only[List.length_drop];omega)
 rw[List.drop_drop,show i+(k-i)=k by omega] at hr'
 obtain⟨j1,j2,j3⟩:=kw hr'
 rw[j3] at hle
 simp only[List.length_drop] at hle
 omega
def da (l:List Int) (j k:Nat):Bool:=decide (l.getD k 0=2)&&(decide (k+1=j)||decide (bF l (k+1)=j))
def lC (l:List Int) (j:Nat):Nat->Int
 |0=>-1
 |n+1=>if da l j n then(n:Int) else lC l j n
theorem iW (l:List Int) (j n:Nat):lC l j (n+1)=if da l j n then(n:Int) else lC l j n:=rfl
def iG (l:List Int) (i:Nat):Int:=if l.getD i 0=2 then((i+1:Nat):Int) else -1
def fR (l:List Int) (i:Nat):Int:=if l.getD i 0=2 then(bF l (i+1):Int) else -1
def cw (l:List Int) (i:Nat):Int:=lC l i i
theorem pE (l:List Int) (j n:Nat):lC l j n=-1\/∃k,k<n/\lC l j n=k/\da l j k=true:=by
 induction n with
 |zero=>exact .inl rfl
 |succ n ih=>
  unfold lC
  split
  ·exact .inr ⟨n,by omega,rfl,‹_›⟩
  ·rcases ih with h|⟨k,h1,h2,h3⟩
   ·exact .inl h
   ·exact .inr ⟨k,by omega,h2,h3⟩
theorem xz {l:List Int} {j n k:Nat} (hk:k<n) (h:da l j k=true) (hu:∀m,k<m->m<n->da l j m=false):lC l j n=k:=by
 induction n with
 |zero=>omega
 |succ n ih=>
  unfold lC
  by_cases e:k=n
  ·subst e;rw[if_pos h]
  ·rw[if_neg (by rw[hu n (by omega) (by omega)];simp)]
   exact ih (by omega) fun m h1 h2=>hu m h1 (by omega)
theorem yU {l:List Int} {j n m:Nat} (hnm:n<=m) (hu:∀k,n<=k->k<m->da l j k=false):lC l j m=lC l j n:=by
 induction m with
 |zero=>rw[show n=0 by omega]
 |succ m ih=>
  by_cases e:n=m+1
  ·rw[e]
  ·rw[iW,if_neg (by rw[hu m (by omega) (by omega)];simp)]
   exact ih (by omega) fun k h1 h2=>hu k h1 (by omega)
theorem A' {l:List Int} (h:ji l) {j k:Nat} (hk:k<l.length) (hp:da l j k=true):k<j/\j<l.length:=by
 simp only[da,Bool.and_eq_true,Bool.or_eq_true,decide_eq_true_eq] at hp
 obtain⟨h2,hp⟩:=hp
 obtain⟨a,b,c,d,e⟩:=h.two hk h2
 omega
theorem Ba {l:List Int} (h:ji l) {j:Nat} (hj:j<l.length):lC l j l.length=cw l j:=by
 unfold cw
 refine yU (by omega) fun k h1 h2=>?_
 cases e:da l j k
 ·rfl
 ·have:=A' h h2 e;omega
theorem qL {l:List Int} (h:ji l) {i:Nat} (hi:i<l.length) (h2:l.getD i 0=2):cw l (i+1)=i:=by
 unfold cw
 exact xz (by omega) (by simp[da,h2,-List.getD_eq_getElem?_getD]) fun m h1 h3=>by omega
theorem pF {l:List Int} (h:ji l) {i:Nat} (hi:i<l.length) (h2:l.getD i 0=2):cw l (bF l (i+1))=i:=by
 obtain⟨a,b,c,d,e⟩:=h.two hi h2
 unfold cw
 refine xz (by omega) (by simp[da,h2,-List.getD_eq_getElem?_getD]) fun m h1 h3=>?_
 cases hp:da l (bF l (i+1)) m
 ·rfl
 ·simp only[da,Bool.and_eq_true,Bool.or_eq_true,decide_eq_true_eq] at hp
  obtain⟨hm2,hp⟩:=hp
  obtain⟨a',b',c',d',e'⟩:=h.two (i:=m) (by omega) hm2
  have:=h.nest (i:=i+1) (k:=m) (by omega) h3 (by omega)
  omega
set_option maxRecDepth 100000
def cH (l:List Int):bj:=.row 3 0 aD l
theorem xA {l l':List Int} (lm:c9) (h:l=l'):jR lm 400 (some (cH l)) (cH l'):=by subst h;rfl
theorem Bb (k:Nat) (hn:k<=1000):ar Tryz.prog 89 [.int .i64 (k:Int)] (ah.ofL []) (fun u M=>∃ℓ0,u= .row ℓ0 k 1/\M ℓ0=some (cH (List.replicate k (-1)))):=by
 refine ar.intro ab ac [] Tryz.func89 rfl (by decide) ?_
 conv=>whnf
 rw[if_neg (by omega)]
 refine yv 0 aD 0 rfl (by dsimp only;omega) ?_
 rw[tN]
 conv=>whnf
 repeat' first|(refine at_ ?_;conv=>whnf)|(refine ag (fun _=>?_) (fun _=>?_)<;>conv=>whnf)
 refine aR.loop (fun i:Nat=>i<=k) (fun i=>(.top:: .top:: .top::(.row 7 k 1):: .top:: .top:: .top:: .top:: .top::(.int .i64 (k:Int))::(.int .i64 (i:Int))::T 7)) (fun i=>ah.ofL [(7,cH (List.replicate i (-1)++List.replicate (k-i) 0))]) (fun i=>k-i) 0 (by omega) (bE.by_ [(7, .old 7)] _ 400 rfl ⟨xA _ (by simp),trivial⟩ (ai)) ?_
 intro i hi
 refine bw ab ac _ _ _ _ ?_
 conv=>whnf
 repeat' first|(refine at_ ?_;conv=>whnf)|(refine ag (fun _=>?_) (fun _=>?_)<;>conv=>whnf)
 ·refine⟨i+1,(bE.by_ [(7, .old 7)] _ 400 rfl ⟨xA _ ?_,trivial⟩ (ai)),by omega,Nat.sub_lt_sub_left (by omega) (by omega)⟩
  rw[tN,List.set_append_right _ _ (by simp),List.length_replicate,Nat.sub_self,List.replicate_succ',List.append_assoc]
  congr 1
  rw[show k-i=(k-(i+1))+1 by omega,List.replicate_succ]
  rfl
 ·obtain rfl:i=k:=by omega
  refine⟨7,rfl,?_⟩
  show some _=_
  simp only[Nat.sub_self,List.replicate_zero,List.append_nil]
def pG (l:List Int) (n:Nat) (row:List Int):List (Nat×bj):=
 [(0, .box 3 [.int .i64 (n:Int)]),(2, .box 36 [.fn 134 [.ptr 0 0, .pd [.sl 0 aD l], .ptr 2 0, .ptr 3 0]]),(3, .box 24 [.row 4 l.length 1]),(4,cH row)]
def GR:c9:=[(0, .old 0),(2, .old 2),(3, .old 3),(4, .old 4)]
def Hs (l:List Int) (n:Nat) (row:List Int):AV->ah->Prop:=fun u M=>∃n' row',dS GR 400 M (pG l n' row')/\row'.length=l.length/\n'<=l.length/\
 ((bN 1 (l.drop n)=some (l.drop n')/\u= .bool true/\n<n'/\∀k:Nat,row'.getD k 0=if n<=k/\k<n' then(bF l k:Int) else row.getD k 0)\/(bN 1 (l.drop n)=none/\u= .bool false))
theorem Bc {l:List Int} {i n:Nat} (hn:n<=l.length) (h:bN 1 (l.drop i)=some (l.drop n)):bF l i=n:=by
 obtain⟨h1,h2,h3⟩:=kw h
 have:=congrArg List.length h3
 simp only[List.length_drop] at this
 omega
theorem yV {l:List Int} {n:Nat} (h:¬n<l.length):bN 1 (l.drop n)=none:=by
 rw[List.drop_eq_nil_of_le (by omega)];rfl
theorem Bd {l:List Int} {n:Nat} (h:n<l.length) (h0:l.getD n 0≠0) (h2:l.getD n 0≠2):bN 1 (l.drop n)=none:=by
 rw[fK h,cn 0,if_neg h0,if_neg h2]
theorem Be {l:List Int} {n:Nat} (h:n<l.length) (h2:l.getD n 0=0\/l.getD n 0=2):bN 1 (l.drop n)=bN (l.getD n 0).toNat (l.drop (n+1)):=by
 rw[fK h,cn 0]
 rcases h2 with e|e
 ·rw[e];rfl
 ·rw[e];rfl
theorem wy {l:List Int} {a c n n2:Nat} (h:bN c (l.drop a)=some (l.drop n)) (h2:bN 1 (l.drop n)=some (l.drop n2)):bN (c+1) (l.drop a)=some (l.drop n2):=by
 rw[fJ,h];exact h2
theorem wz {l:List Int} {a c d n:Nat} (h:bN c (l.drop a)=some (l.drop n)) (h2:bN 1 (l.drop n)=none) (hc:c<d):bN d (l.drop a)=none:=by
 rw[show d=c+(1+(d-c-1)) by omega,fJ,h]
 show bN _ _=none
 rw[fJ,h2];rfl
theorem Ht (l:List Int) (hl:l.length<=1000):∀(m n:Nat) (row:List Int),l.length-n=m->n<=l.length->row.length=l.length->
  ar Tryz.prog 134 [.ptr 0 0, .pd [.sl 0 aD l], .ptr 2 0, .ptr 3 0] (ah.ofL (pG l n row)) (Hs l n row):=by
 intro m
 induction m using Nat.strongRecOn with
 |_ m ih=>
  intro n row hm hn hr
  refine ar.intro ab ac (pG l n row) Tryz.func134 rfl (by decide) ?_
  conv=>whnf
  by_cases hlt:n<l.length
  ·by_cases hv:l.getD n 0=0\/l.getD n 0=2
   ·have hw:=Be hlt hv
    have hx:0<=l.getD n 0/\l.getD n 0<=2:=by omega
    have hto:((l.getD n 0).toNat:Int)=l.getD n 0:=by omega
    refine fI ?_
    conv=>whnf
    repeat' first|(refine at_ ?_;conv=>whnf)|(refine ag (fun _=>?_) (fun _=>?_)<;>conv=>whnf)
    ·rename_i h1 h2
     rw[tN] at h1 h2
     omega
    all_goals
     refine aR.loop (fun x:Nat×Nat×List Int=>x.1<=(l.getD n 0).toNat/\n+1<=x.2.1/\x.2.1<=l.length/\x.2.2.length=l.length/\bN x.1 (l.drop (n+1))=some (l.drop x.2.1)/\∀k:Nat,x.2.2.getD k 0=if n+1<=k/\k<x.2.1 then(bF l k:Int) else row.getD k 0)
      (fun x=>((.ptr 0 0)::(.pd [.sl 0 aD l])::(.ptr 2 0)::(.ptr 3 0):: .top::(.int .i64 (n:Int)):: .top:: .top:: .top:: .top:: .top:: .top:: .top:: .top:: .top:: .top:: .top:: .top:: .top:: .top:: .top:: .top:: .top:: .top:: .top:: .top:: .top:: .top:: .top:: .top::(.int .i64 (l.getD n 0))::(.int .i64 (x.1:Int))::T 9)) (fun x=>ah.ofL (pG l x.2.1 x.2.2)) (fun x=>(l.getD n 0).toNat-x.1) (0,n+1,row) ⟨by dsimp only;omega,by dsimp only;omega,by dsimp only;omega,hr,dW _,fun k=>by rw[if_neg (by dsimp only;omega)]⟩ (bE.by_ GR _ 400 rfl (ai) (ai)) ?_
     rintro⟨c,n1,row1⟩ ⟨hc,h1,h2,h3,h4,h5⟩
     dsimp only at hc h1 h2 h3 h4 h5⊢
     refine bw ab ac _ _ _ _ ?_
     conv=>whnf
     refine ag (fun hcx=>?_) (fun hcx=>?_)<;>conv=>whnf
     ·refine ar.call GR (pG l n1 row1) 400 rfl (ai) (ai) (ih (l.length-n1) (by omega) n1 row1 rfl h2 h3) ?_
      rintro u M' ⟨n2,row2,hm2,hl2,hn2,hh⟩
      rcases hh with ⟨e1,rfl,e2,e3⟩|⟨e1,rfl⟩
      ·refine⟨GR,pG l n2 row2, .bool true,rfl,hm2,rfl,?_⟩
       conv=>whnf
       repeat' first|(refine at_ ?_;conv=>whnf)|(refine ag (fun _=>?_) (fun _=>?_)<;>conv=>whnf)
       refine⟨(c+1,n2,row2),(bE.by_ GR _ 400 rfl (ai) (ai)),⟨by dsimp only;omega,by dsimp only;omega,hn2,hl2,wy h4 e1,fun k=>?_⟩,Nat.sub_lt_sub_left (by dsimp only;omega) (by dsimp only;omega)⟩
       dsimp only
       rw[e3 k,h5 k]
       by_cases ha:n1<=k/\k<n2
       ·rw[if_pos ha,if_pos (by omega)]
       ·rw[if_neg ha]
        by_cases hb:n+1<=k/\k<n1
        ·rw[if_pos hb,if_pos (by omega)]
        ·rw[if_neg hb,if_neg (by omega)]
      ·refine⟨GR,pG l n2 row2, .bool false,rfl,hm2,rfl,?_⟩
       conv=>whnf
       refine⟨n2,row2,(ai),hl2,hn2, .inr ⟨?_,rfl⟩⟩
       rw[hw]
       exact wz h4 e1 (by omega)
     ·have hc2:c=(l.getD n 0).toNat:=by omega
      rw[hc2,<-hw] at h4
      have he:=Bc h2 h4
      repeat' first|(refine at_ ?_;conv=>whnf)|(refine ag (fun _=>?_) (fun _=>?_)<;>conv=>whnf)
      refine⟨n1,row1.set n n1,(ai),by rw[List.length_set,h3],h2, .inl ⟨h4,rfl,by omega,fun k=>?_⟩⟩
      rw[gD,List.getElem?_set]
      by_cases hk:n=k
      ·subst hk
       rw[if_pos rfl,if_pos (by omega),if_pos (by omega),he]
       rfl
      ·rw[if_neg hk,<-gD,h5 k]
       by_cases hb:n+1<=k/\k<n1
       ·rw[if_pos hb,if_pos (by omega)]
       ·rw[if_neg hb,if_neg (by omega)]
   ·have hb:=Bd hlt (fun h=>hv (.inl h)) (fun h=>hv (.inr h))
    repeat' first|(refine at_ ?_;conv=>whnf)|(refine ag (fun _=>?_) (fun _=>?_)<;>conv=>whnf)
    ·exact⟨n,row,(ai),hr,hn, .inr ⟨hb,rfl⟩⟩
    all_goals
     exfalso
     simp only[tN] at*
     omega
  ·have hb:=yV hlt
   repeat' first|(refine at_ ?_;conv=>whnf)|(refine ag (fun _=>?_) (fun _=>?_)<;>conv=>whnf)
   exact⟨n,row,(ai),hr,hn, .inr ⟨hb,rfl⟩⟩
set_option maxRecDepth 100000
theorem ax (l:List Int) (i k:Nat) (v:Int):(l.set i v).getD k 0=if i=k/\i<l.length then v else l.getD k 0:=by
 rw[gD,List.getElem?_set]
 by_cases h:i=k
 ·subst h
  by_cases h2:i<l.length
  ·simp[h2]
  ·simp[h2,gD]
 ·simp[h,gD]
theorem mn {l:List Int} {n:Nat} (hl:l.length=n) {g:Nat->Int} (h:∀k,k<n->l.getD k 0=g k):l=(List.range n).map g:=by
 apply List.ext_getElem
 ·simp[hl]
 ·intro i h1 h2
  have:=h i (by omega)
  rw[gD,gL h1] at this
  simpa using this
theorem iX (n k:Nat) (v:Int) (h:k<n):(List.replicate n v).getD k 0=v:=by
 simp[gD,List.getElem?_replicate,h]
theorem aZ (n k:Nat) (g:Nat->Int) (h:k<n):((List.range n).map g).getD k 0=g k:=by
 simp[gD,h]
instance (l:List Int):Decidable (ji l):=inferInstanceAs (Decidable (bN 1 l=some []))
def mo (l:List Int):List Int:=(List.range l.length).map fun i=>(bF l i:Int)
theorem xB {l:List Int} (h:ji l):0<l.length:=by
 cases l with
 |nil=>cases h
 |cons x l=>simp
def Hu (l:List Int) (n:Nat) (row:List Int):AV->ah->Prop:=fun u M=>∃n' row',M=ah.ofL (pG l n' row')/\row'.length=l.length/\n'<=l.length/\
 ((bN 1 (l.drop n)=some (l.drop n')/\u= .bool true/\n<n'/\∀k:Nat,row'.getD k 0=if n<=k/\k<n' then(bF l k:Int) else row.getD k 0)\/(bN 1 (l.drop n)=none/\u= .bool false))
theorem Hv (l:List Int) (hl:l.length<=1000) (n:Nat) (row:List Int) (hn:n<=l.length) (hr:row.length=l.length):
  ar Tryz.prog 134 [.ptr 0 0, .pd [.sl 0 aD l], .ptr 2 0, .ptr 3 0] (ah.ofL (pG l n row)) (Hu l n row):=by
 refine ar.norm 400 (Ht l hl _ n row rfl hn hr) ?_
 rintro u M' ⟨n2,row2,hm2,hl2,hn2,hh⟩
 refine⟨pG l n2 row2,u,rfl,hm2,?_,n2,row2,rfl,hl2,hn2,hh⟩
 rcases hh with ⟨_,rfl,_⟩|⟨_,rfl⟩<;>rfl
theorem Bf (l:List Int) (hl:l.length<=1000):aa Tryz.prog 90 [.sl 0 aD l] (fun u=>u=if ji l then .sl 0 aD (mo l) else .nilsl):=by
 refine aa.intro ab ac Tryz.func90 rfl (by decide) ?_;(conv=>whnf)
 refine am rfl ?_
 conv=>whnf
 refine yv 0 aD 0 rfl (by dsimp only;omega) ?_
 rw[tN]
 conv=>whnf
 repeat' first|(refine at_ ?_;conv=>whnf)|(refine ag (fun _=>?_) (fun _=>?_)<;>conv=>whnf)
 refine ar.call [(0, .old 4),(2, .old 5),(3, .old 3),(4, .old 8)] (pG l 0 (List.replicate l.length 0)) 400 rfl (ai) (ai) (Hv l hl 0 (List.replicate l.length 0) (by omega) (by simp)) ?_
 rintro u M' ⟨n2,row2,rfl,hl2,hn2,hh⟩
 rcases hh with ⟨h1,rfl,h2,h3⟩|⟨h1,rfl⟩
 ·refine⟨[(4, .old 0),(5, .old 2),(3, .old 3),(8, .old 4)],[(4, .box 3 [.int .i64 (n2:Int)]),(5, .box 36 [.fn 134 [.ptr 4 0, .pd [.sl 0 aD l], .ptr 5 0, .ptr 3 0]]),(3, .box 24 [.row 8 l.length 1]),(8,cH row2)], .bool true,rfl,(ai),rfl,?_⟩
  conv=>whnf
  rw[List.drop_zero] at h1
  repeat' first|(refine at_ ?_;conv=>whnf)|(refine ag (fun _=>?_) (fun _=>?_)<;>conv=>whnf)
  ·rename_i hne
   rw[if_neg]
   ·exact⟨rfl,rfl⟩
   ·intro hs
    rw[ji,h1,Option.some.injEq] at hs
    have:=congrArg List.length hs
    simp at this
    omega
  ·rename_i hne
   obtain rfl:n2=l.length:=by omega
   rw[List.drop_length] at h1
   rw[if_pos (show ji l from h1)]
   refine⟨Fd (mn hl2 fun k hk=>?_),rfl⟩
   rw[h3 k,if_pos (by omega)]
 ·refine⟨[(4, .old 0),(5, .old 2),(3, .old 3),(8, .old 4)],[(4, .box 3 [.int .i64 (n2:Int)]),(5, .box 36 [.fn 134 [.ptr 4 0, .pd [.sl 0 aD l], .ptr 5 0, .ptr 3 0]]),(3, .box 24 [.row 8 l.length 1]),(8,cH row2)], .bool false,rfl,(ai),rfl,?_⟩
  conv=>whnf
  rw[List.drop_zero] at h1
  repeat' first|(refine at_ ?_;conv=>whnf)|(refine ag (fun _=>?_) (fun _=>?_)<;>conv=>whnf)
  rw[if_neg (by rw[ji,h1];intro h;cases h)]
  exact⟨rfl,rfl⟩
def pH (t:Int) (l:List Int) (n:Nat):Bool:=decide (t=4->ji l/\l.length=n)
def pJ (t:Int) (l:List Int) (n i:Nat):Int:=if t=2 then(i:Int)-1 else if t=3 then(if i=0 then(n:Int)-1 else(i:Int)-1) else if t=4/\pH t l n=true then iG l i else -1
def oz (t:Int) (l:List Int) (n i:Nat):Int:=if t=2 then(if i+1=n then -1 else(i:Int)+1) else if t=3 then(if i+1=n then 0 else(i:Int)+1) else if t=4/\pH t l n=true then fR l i else -1
def qM (t:Int) (l:List Int) (n i:Nat):Int:=if t=4/\pH t l n=true then cw l i else -1
def Bg (t:Int) (l:List Int) (n:Nat):AV:=.agg [.sl 0 aD ((List.range n).map (pJ t l n)), .sl 0 aD ((List.range n).map (oz t l n)), .sl 0 aD ((List.range n).map (qM t l n))]
theorem kx {t:Int} {l:List Int} {n:Nat} {f s p:List Int} {b:Bool} (hf:f.length=n) (hs:s.length=n) (hp:p.length=n) (h:∀k,k<n->f.getD k 0=pJ t l n k/\s.getD k 0=oz t l n k/\p.getD k 0=qM t l n k) (hb:b=pH t l n):
  AV.tup [.agg [.sl 0 aD f, .sl 0 aD s, .sl 0 aD p], .bool b]= .tup [Bg t l n, .bool (pH t l n)]:=by
 rw[hb,Bg,mn hf fun k hk=>(h k hk).1,mn hs fun k hk=>(h k hk).2.1,mn hp fun k hk=>(h k hk).2.2]
def Hw (n:Nat) (f s p:List Int):List (Nat×bj):=[(6, .box 99 [.nilsl, .nilsl, .nilsl]),(8, .box 99 [.row 14 n 1, .row 16 n 1, .row 18 n 1]),(14,cH f),(16,cH s),(18,cH p)]
theorem Hx (t:Int) (l:List Int) (n:Nat) (hl:l.length<=1000) (hn:n<=1000):aa Tryz.prog 46 [.int .i64 t, .sl 0 aD l, .int .i64 (n:Int)] (fun u=>u= .tup [Bg t l n, .bool (pH t l n)]):=by
 refine aa.intro ab ac Tryz.func46 rfl (by decide) ?_;(conv=>whnf)
 refine ar.fresh 14 (Bb n hn) rfl (ai) ?_
 conv=>whnf
 refine ar.fresh 16 (Bb n hn) rfl (ai) ?_
 conv=>whnf
 refine ar.fresh 18 (Bb n hn) rfl (ai) ?_
 conv=>whnf
 by_cases h23:t=2\/t=3
 ·repeat' first|(refine at_ ?_;conv=>whnf)|(refine ag (fun _=>?_) (fun _=>?_)<;>conv=>whnf)
  all_goals
   refine aR.loopF ab ac (fun((i,f,s):Nat×List Int×List Int)=>i<=n/\f.length=n/\s.length=n/\∀k,k<n->f.getD k 0=(if k<i then(k:Int)-1 else -1)/\s.getD k 0=if k<i then(k:Int)+1 else -1) (fun(i,_,_)=>[(25, .int .i64 (i:Int))]) (fun(_,f,s)=>Hw n f s (List.replicate n (-1))) (fun(i,_,_)=>n-i) (0,List.replicate n (-1),List.replicate n (-1)) ⟨Nat.zero_le _,List.length_replicate,List.length_replicate,fun k hk=>by rw[iX _ _ _ hk,if_neg (by simp),if_neg (by simp)];exact⟨rfl,rfl⟩⟩ ?_;conv=>whnf
   refine⟨sI,?_⟩
   rintro⟨i,f,s⟩ ⟨hi,hf,hs,hp⟩
   conv=>whnf
   repeat' first|(refine at_ ?_;conv=>whnf)|(refine ag (fun _=>?_) (fun _=>?_)<;>conv=>whnf)
   ·refine⟨(i+1,f.set i ((i:Int)-1),s.set i ((i:Int)+1)),sI,⟨by omega,by simpa using hf,by simpa using hs,fun k hk=>?_⟩,by dsimp only;omega⟩
    rw[ax,ax,(hp k hk).1,(hp k hk).2]
    constructor<;>(repeat' split)<;>omega
   all_goals
    refine⟨kx (by simpa using hf) (by simpa using hs) (by simp) (fun k hk=>?_) (by unfold pH;rw[decide_eq_true];intro h;omega),rfl⟩
    simp only[ax,List.length_set,(hp k hk).1,(hp k hk).2,iX _ _ _ hk]
    unfold pJ oz qM
    refine⟨?_,?_,?_⟩<;>(repeat' split)<;>omega
 ·by_cases h4:t=4
  ·subst h4
   repeat' first|(refine at_ ?_;conv=>whnf)|(refine ag (fun _=>?_) (fun _=>?_)<;>conv=>whnf)
   by_cases hsh:ji l
   ·have he:=Bf l hl
    rw[if_pos hsh] at he
    have hel:(mo l).length=l.length:=by simp[mo]
    have hpos:=xB hsh
    (refine oP (he) ?_;conv=>whnf)
    refine dA (by intro h;rw[h] at hel;simp at hel;omega) ?_
    conv=>whnf
    by_cases hln:l.length=n
    ·subst hln
     repeat' first|(refine at_ ?_;conv=>whnf)|(refine ag (fun _=>?_) (fun _=>?_)<;>conv=>whnf)
     refine aR.loopF ab ac (fun((i,f,s,p):Nat×List Int×List Int×List Int)=>i<=l.length/\f.length=l.length/\s.length=l.length/\p.length=l.length/\∀k,k<l.length->f.getD k 0=(if k<i then iG l k else -1)/\s.getD k 0=(if k<i then fR l k else -1)/\p.getD k 0=lC l k i) (fun(i,_,_,_)=>[(79, .int .i64 (i:Int))]) (fun(_,f,s,p)=>Hw l.length f s p) (fun(i,_,_,_)=>l.length-i) (0,List.replicate l.length (-1),List.replicate l.length (-1),List.replicate l.length (-1)) ⟨Nat.zero_le _,List.length_replicate,List.length_replicate,List.length_replicate,fun k hk=>by rw[iX _ _ _ hk,if_neg (by simp),if_neg (by simp)];exact⟨rfl,rfl,rfl⟩⟩ ?_;conv=>whnf
     refine⟨sI,?_⟩
     rintro⟨i,f,s,p⟩ ⟨hi,hf,hs,hp,hall⟩
     conv=>whnf
     refine ag (fun hlt=>?_) (fun hlt=>?_)<;>conv=>whnf
     ·have hil:i<l.length:=by omega
      by_cases h2:l.getD (i:Int).toNat 0=2
      ·obtain⟨a1,a2,a3,a4,a5⟩:=hsh.two hil (by simpa using h2)
       have hv:(mo l).getD ((i:Int)+1).toNat 0=(bF l (i+1):Int):=by
        rw[show((i:Int)+1).toNat=i+1 by omega]
        exact aZ _ _ _ a1
       repeat' first|(refine at_ ?_;conv=>whnf)|(refine ag (fun _=>?_) (fun _=>?_)<;>conv=>whnf)
       refine⟨(i+1,f.set i ((i:Int)+1),s.set i ((mo l).getD ((i:Int)+1).toNat 0),(p.set ((i:Int)+1).toNat i).set ((mo l).getD ((i:Int)+1).toNat 0).toNat i),sI,⟨by omega,by simpa using hf,by simpa using hs,by simpa using hp,fun k hk=>?_⟩,by dsimp only;omega⟩
       obtain⟨b1,b2,b3⟩:=hall k hk
       rw[ax,ax,ax,ax,List.length_set,hv,b1,b2,b3,iW]
       rw[tN] at h2
       refine⟨?_,?_,?_⟩
       ·by_cases hik:i=k
        ·subst hik;rw[if_pos (by omega),if_pos (by omega),iG,if_pos h2];omega
        ·rw[if_neg (by omega)];(repeat' split)<;>first|rfl|omega
       ·by_cases hik:i=k
        ·subst hik;rw[if_pos (by omega),if_pos (by omega),fR,if_pos h2]
        ·rw[if_neg (by omega)];(repeat' split)<;>first|rfl|omega
       ·by_cases hpk:da l k i=true
        ·rw[if_pos hpk]
         simp only[da,Bool.and_eq_true,Bool.or_eq_true,decide_eq_true_eq] at hpk
         rcases hpk.2 with e|e
         ·by_cases hx:(bF l (i+1):Int).toNat=k
          ·rw[if_pos (by omega)]
          ·rw[if_neg (by omega),if_pos (by omega)]
         ·rw[if_pos (by omega)]
        ·rw[if_neg hpk]
         simp only[da,h2,decide_true,Bool.true_and,Bool.or_eq_true,decide_eq_true_eq,not_or] at hpk
         rw[if_neg (by omega),if_neg (by omega)]
      ·repeat' first|(refine at_ ?_;conv=>whnf)|(refine ag (fun _=>?_) (fun _=>?_)<;>conv=>whnf)
       refine⟨(i+1,f,s,p),sI,⟨by omega,hf,hs,hp,fun k hk=>?_⟩,by dsimp only;omega⟩
       obtain⟨b1,b2,b3⟩:=hall k hk
       rw[tN] at h2
       rw[b1,b2,b3,iW,if_neg (show¬da l k i=true by simp[da];intro h;exact absurd h h2)]
       refine⟨?_,?_,rfl⟩
       ·by_cases hik:i=k
        ·subst hik;rw[if_neg (by omega),if_pos (by omega),iG,if_neg h2]
        ·(repeat' split)<;>first|rfl|omega
       ·by_cases hik:i=k
        ·subst hik;rw[if_neg (by omega),if_pos (by omega),fR,if_neg h2]
        ·(repeat' split)<;>first|rfl|omega
     ·obtain rfl:i=l.length:=by omega
      have hlk:pH 4 l l.length=true:=by unfold pH;rw[decide_eq_true];exact fun _=>⟨hsh,rfl⟩
      refine⟨kx hf hs hp (fun k hk=>?_) hlk.symm,rfl⟩
      obtain⟨b1,b2,b3⟩:=hall k hk
      rw[b1,b2,b3,if_pos hk,if_pos hk,Ba hsh hk]
      simp[pJ,oz,qM,hlk]
    ·repeat' first|(refine at_ ?_;conv=>whnf)|(refine ag (fun _=>?_) (fun _=>?_)<;>conv=>whnf)
     have hlk:pH 4 l n=false:=by unfold pH;rw[decide_eq_false];exact fun h=>hln (h rfl).2
     refine⟨kx (by simp) (by simp) (by simp) (fun k hk=>?_) hlk.symm,rfl⟩
     rw[iX _ _ _ hk,pJ,oz,qM,hlk]
     exact⟨rfl,rfl,rfl⟩
   ·have he:=Bf l hl
    rw[if_neg hsh] at he
    (refine oP (he) ?_;conv=>whnf)
    repeat' first|(refine at_ ?_;conv=>whnf)|(refine ag (fun _=>?_) (fun _=>?_)<;>conv=>whnf)
    have hlk:pH 4 l n=false:=by unfold pH;rw[decide_eq_false];exact fun h=>hsh (h rfl).1
    refine⟨kx (by simp) (by simp) (by simp) (fun k hk=>?_) hlk.symm,rfl⟩
    rw[iX _ _ _ hk,pJ,oz,qM,hlk]
    exact⟨rfl,rfl,rfl⟩
  ·repeat' first|(refine at_ ?_;conv=>whnf)|(refine ag (fun _=>?_) (fun _=>?_)<;>conv=>whnf)
   refine⟨kx (by simp) (by simp) (by simp) (fun k hk=>?_) (by unfold pH;rw[decide_eq_true];intro h;omega),rfl⟩
   rw[iX _ _ _ hk,pJ,oz,qM,if_neg (by omega),if_neg (by omega),if_neg (by omega),if_neg (by omega),if_neg (by omega),if_neg (by omega),if_neg (by omega)]
   exact⟨rfl,rfl,rfl⟩
set_option maxRecDepth 100000
def Ix (t:Int) (l:List Int) (n i:Int):Int×Int×Int:=
 if i<0\/n<=i then(-1,-1,-1) else if t=2 then(i-1,(if i+1=n then -1 else i+1),-1)
 else if t=3 then((if i-1<0 then n-1 else i-1),(if i+1=n then 0 else i+1),-1)
 else if t=4/\(l.length:Int)=n/\ji l then(iG l i.toNat,fR l i.toNat,cw l i.toNat) else(-1,-1,-1)
def Hy (x:Int×Int×Int):AV:=.tup [.int .i64 x.1, .int .i64 x.2.1, .int .i64 x.2.2]
theorem ip {a b c:Int} {x:Int×Int×Int} (h:x=(a,b,c)):AV.tup [.int .i64 a, .int .i64 b, .int .i64 c]=Hy x:=by rw[h];rfl
set_option maxRecDepth 100000
structure ap where
 shape:List Int
 states:List Int
 correct:Int
 sent:List Int
 faulty:List Int
 value:Int
def aY (c:ap):List AV:=[.sl 0 aD c.shape, .sl 0 aD c.states, .int .i64 c.correct, .sl 0 aD c.sent, .sl 0 aD c.faulty, .int .i64 c.value]
def aA:ap:=⟨[],[],0,[],[],0⟩
def aX (c:ap):Bool:=decide (100<c.shape.length)||decide (100<c.states.length)||decide (100<c.sent.length)||decide (100<c.faulty.length)
def co:List Int->Int
 |[]=>0
 |x::l=>if x≠0 then x else co l
theorem mq {l:List Int} {k:Nat} (h:k<l.length):co (l.drop k)=if l.getD k 0≠0 then l.getD k 0 else co (l.drop (k+1)):=by
 rw[fK h];rfl
theorem Hz (l:List Int) (hl:l.length<=1000):aa Tryz.prog 83 [.sl 0 aD l] (fun u=>u= .int .i64 (co l)):=by
 refine aa.intro ab ac Tryz.func83 rfl (by decide) ?_;(conv=>whnf)
 refine aR.loopF ab ac (fun k:Nat=>k<=l.length/\co l=co (l.drop k)) (fun k=>[(8, .int .i64 (k:Int))]) (fun _=>[]) (fun k=>l.length-k) 0 ⟨by omega,rfl⟩ ?_;conv=>whnf
 refine⟨sI,?_⟩
 rintro k ⟨hk,he⟩
 conv=>whnf
 repeat' first|(refine at_ ?_;conv=>whnf)|(refine ag (fun _=>?_) (fun _=>?_)<;>conv=>whnf)
 ·rename_i h1 h2
  rw[mq (by omega),if_pos (by simpa using h2)] at he
  exact⟨aj (by rw[he];rfl),rfl⟩
 ·rename_i h1 h2
  rw[mq (by omega),if_neg (by simpa using h2)] at he
  exact⟨k+1,sI,⟨by omega,he⟩,by dsimp only;omega⟩
 ·obtain rfl:k=l.length:=by omega
  rw[List.drop_length] at he
  exact⟨aj he.symm,rfl⟩
def fx (a b:ap):Int:=co [bz a.shape b.shape,bz a.states b.states,bz a.sent b.sent,bz a.faulty b.faulty,hJ a.correct b.correct,hJ a.value b.value]
theorem Bh (a b:ap) (ha:aX a=false):aa Tryz.prog 43 [.agg (aY a), .agg (aY b)] (fun u=>u= .int .i64 (fx a b)):=by
 have h0:a.shape.length<=100/\a.states.length<=100/\a.sent.length<=100/\a.faulty.length<=100:=by
  unfold aX at ha
  simp at ha
  omega
 refine aa.intro ab ac Tryz.func43 rfl (by decide) ?_;(conv=>whnf)
 refine am rfl ?_
 conv=>whnf
 refine am rfl ?_
 conv=>whnf
 refine dI ?_
 conv=>whnf
 (refine oC (iV a.shape b.shape (by omega)) ?_;conv=>whnf)
 (refine oC (iV a.states b.states (by omega)) ?_;conv=>whnf)
 (refine oC (iV a.sent b.sent (by omega)) ?_;conv=>whnf)
 (refine oC (iV a.faulty b.faulty (by omega)) ?_;conv=>whnf)
 (refine oC (lB a.correct b.correct) ?_;conv=>whnf)
 (refine oC (lB a.value b.value) ?_;conv=>whnf)
 refine dF ?_
 conv=>whnf
 (refine oC (Hz _ (by simp)) ?_;conv=>whnf)
 exact⟨rfl,rfl⟩
theorem Bi (a b c d:Int):bz [a,b] [c,d]=co [hJ a c,hJ b d]:=by
 simp only[bz,co,hJ]
 (repeat' split)<;>first|rfl|omega
theorem fS (x:Int) (l:List Int) (h:¬x≠0):co (x::l)=co l:=by rw[co,if_neg h]
theorem uB (a b:ap) (ha:aX a=false):aa Tryz.prog 10 [.agg (aY a), .agg (aY b)] (fun u=>u= .int .i64 (fx a b)):=by
 have h0:a.shape.length<=100/\a.states.length<=100/\a.sent.length<=100/\a.faulty.length<=100:=by
  unfold aX at ha
  simp at ha
  omega
 refine aa.intro ab ac Tryz.func10 rfl (by decide) ?_;(conv=>whnf)
 refine am rfl ?_
 conv=>whnf
 refine am rfl ?_
 conv=>whnf
 (refine oP (cD a.shape b.shape (by omega)) ?_;conv=>whnf)
 refine ag (fun h1=>?_) (fun h1=>?_)<;>conv=>whnf
 ·exact⟨aj (by rw[fx,co,if_pos h1]),rfl⟩
 (refine oP (cD a.states b.states (by omega)) ?_;conv=>whnf)
 refine ag (fun h2=>?_) (fun h2=>?_)<;>conv=>whnf
 ·exact⟨aj (by rw[fx,fS _ _ h1,co,if_pos h2]),rfl⟩
 (refine oP (cD a.sent b.sent (by omega)) ?_;conv=>whnf)
 refine ag (fun h3=>?_) (fun h3=>?_)<;>conv=>whnf
 ·exact⟨aj (by rw[fx,fS _ _ h1,fS _ _ h2,co,if_pos h3]),rfl⟩
 (refine oP (cD a.faulty b.faulty (by omega)) ?_;conv=>whnf)
 refine ag (fun h4=>?_) (fun h4=>?_)<;>conv=>whnf
 ·exact⟨aj (by rw[fx,fS _ _ h1,fS _ _ h2,fS _ _ h3,co,if_pos h4]),rfl⟩
 refine ar.hand 45 rfl ?_
 refine ar.hand 50 rfl ?_
 (refine oP (cD [a.correct,a.value] [b.correct,b.value] (by simp)) ?_;conv=>whnf)
 exact⟨aj (by rw[Bi,fx,fS _ _ h1,fS _ _ h2,fS _ _ h3,fS _ _ h4]),rfl⟩
theorem uC (a b:List Int):bz b a=-bz a b:=by
 induction a generalizing b with
 |nil=>cases b<;>rfl
 |cons x xs ih=>
  cases b with
  |nil=>rfl
  |cons y ys=>
   simp only[bz]
   by_cases h1:x<y
   ·rw[if_neg (by omega),if_pos h1,if_pos h1];rfl
   ·by_cases h2:y<x
    ·rw[if_pos h2,if_neg h1,if_pos h2]
    ·rw[if_neg h2,if_neg h1,if_neg h1,if_neg h2,ih]
theorem Bj (a b:Int):hJ b a=-hJ a b:=by
 unfold hJ
 (repeat' split)<;>first|rfl|omega
theorem D1 (l m:List Int) (h:m=l.map (-·)):co m=-co l:=by
 subst h
 induction l with
 |nil=>rfl
 |cons x l ih=>
  simp only[List.map_cons,co]
  by_cases hx:x=0
  ·subst hx;simpa using ih
  ·rw[if_pos (by omega),if_pos hx]
theorem pK (a b:ap):fx b a=-fx a b:=by
 refine D1 _ _ ?_
 simp only[List.map_cons,List.map_nil,<-uC,<-Bj]
theorem kW (a:ap):fx a a=0:=by
 simp[fx,rJ,co,hJ]
def Bk (x y z:Int):Prop:=(x<=0->y<=0->z<=0)/\(x=0->y=0->z=0)/\(x<0->y<=0->z<0)/\(x<=0->y<0->z<0)
theorem Bk.or {x y z:Int} {xs ys zs:List Int} (h:Bk x y z) (h':Bk (co xs) (co ys) (co zs)):Bk (co (x::xs)) (co (y::ys)) (co (z::zs)):=by
 obtain⟨a1,a2,a3,a4⟩:=h
 obtain⟨b1,b2,b3,b4⟩:=h'
 simp only[co]
 refine⟨?_,?_,?_,?_⟩<;>(repeat' split)<;>omega
theorem Bk.z (a b c:Int):Bk (hJ a b) (hJ b c) (hJ a c):=by
 unfold Bk hJ
 refine⟨?_,?_,?_,?_⟩<;>(repeat' split)<;>omega
theorem Bk.l (a b c:List Int):Bk (bz a b) (bz b c) (bz a c):=by
 have tr:=ku.trans a b c
 have e1:bz a b=0->bz a c=bz b c:=fun h=>by rw[gu h]
 have e2:bz b c=0->bz a c=bz a b:=fun h=>by rw[gu h]
 have e3:bz a c=0->bz b c=-bz a b:=fun h=>by rw[gu h,<-uC]
 refine⟨tr,?_,?_,?_⟩<;>omega
theorem Bl (a b c:ap):Bk (fx a b) (fx b c) (fx a c):=
 .or (.l _ _ _) (.or (.l _ _ _) (.or (.l _ _ _) (.or (.l _ _ _) (.or (.z _ _ _) (.or (.z _ _ _) ⟨by decide,by decide,by decide,by decide⟩)))))
end Go.Proofs.YtblcpnmnibcbbaaGreatDoor
