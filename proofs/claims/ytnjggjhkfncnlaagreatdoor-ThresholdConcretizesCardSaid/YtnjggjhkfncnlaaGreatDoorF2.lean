import Derived.Test.YtnjggjhkfncnlaaGreatDoorG1
import Derived.Test.YtnjggjhkfncnlaaGreatDoorF1
import Derived.Test.YtnjggjhkfncnlaaGreatDoorG4
set_option linter.unusedVariables false
set_option linter.unusedSimpArgs false
namespace Go.Proofs.YtnjggjhkfncnlaaGreatDoor
def bR:Nat->List Int->Option (List Int)
 |0,l=>some l
 |_+1,[]=>none
 |n+1,x::xs=>if x=0 then bR n xs else if x=2 then bR (n+2) xs else none
theorem fc (l:List Int):bR 0 l=some l:=by cases l<;>rfl
theorem fU (n:Nat):bR (n+1) []=none:=rfl
theorem cE (n:Nat) (x:Int) (xs:List Int):bR (n+1) (x::xs)=if x=0 then bR n xs else if x=2 then bR (n+2) xs else none:=rfl
theorem fV:∀(l:List Int) (a b:Nat),bR (a+b) l=(bR a l).bind (bR b)
 |l,0,b=>by rw[Nat.zero_add,fc];rfl
 |[],a+1,b=>by rw[show a+1+b=(a+b)+1 by omega,fU,fU];rfl
 |x::xs,a+1,b=>by
  rw[show a+1+b=(a+b)+1 by omega,cE,cE]
  split
  ·exact fV xs a b
  ·split
   ·rw[show a+b+2=(a+2)+b by omega];exact fV xs (a+2) b
   ·rfl
theorem jB:∀(l:List Int) (n:Nat) (r:List Int),bR n l=some r->∃k,n<=k/\k<=l.length/\r=l.drop k
 |l,0,r,h=>by rw[fc] at h;cases h;exact⟨0,by omega,by omega,by simp⟩
 |[],n+1,r,h=>by rw[fU] at h;cases h
 |x::xs,n+1,r,h=>by
  rw[cE] at h
  split at h
  ·obtain⟨k,h1,h2,h3⟩:=jB xs n r h
   exact⟨k+1,by omega,by simp;omega,by simpa using h3⟩
  ·split at h
   ·obtain⟨k,h1,h2,h3⟩:=jB xs (n+2) r h
    exact⟨k+1,by omega,by simp;omega,by simpa using h3⟩
   ·cases h
def bo (l:List Int) (i:Nat):Nat:=match bR 1 (l.drop i) with
 |some r=>l.length-r.length
 |none=>0
theorem ky {l r:List Int} {i:Nat} (h:bR 1 (l.drop i)=some r):i<bo l i/\bo l i<=l.length/\r=l.drop (bo l i):=by
 obtain⟨k,h1,h2,h3⟩:=jB _ _ _ h
 have e:bo l i=l.length-r.length:=by unfold bo;rw[h]
 rw[List.drop_drop] at h3
 have hl:(l.drop i).length=l.length-i:=List.length_drop
 have hr:r.length=l.length-(i+k):=by rw[h3,List.length_drop]
 have e2:bo l i=i+k:=by omega
 exact⟨by omega,by omega,by rw[e2,h3]⟩
theorem fW {l:List Int} {i:Nat} (h:i<l.length):l.drop i=l.getD i 0::l.drop (i+1):=by
 rw[List.drop_eq_getElem_cons h,gD,gL h]
 rfl
theorem iC:∀(l:List Int) (n:Nat) (r:List Int) (k:Nat),bR n l=some r->k+r.length<l.length->∃r',bR 1 (l.drop k)=some r'/\r.length<=r'.length
 |l,0,r,k,h,hk=>by rw[fc] at h;cases h;omega
 |[],n+1,r,k,h,hk=>by rw[fU] at h;cases h
 |x::xs,n+1,r,0,h,hk=>by
  rw[show n+1=1+n by omega,fV] at h
  obtain⟨m,hm,hr⟩:=Option.bind_eq_some_iff.1 h
  obtain⟨j,_,_,hj⟩:=jB _ _ _ hr
  exact⟨m,hm,by rw[hj];simp⟩
 |x::xs,n+1,r,k+1,h,hk=>by
  rw[cE] at h
  simp only[List.length_cons] at hk
  split at h
  ·exact iC xs n r k h (by omega)
  ·split at h
   ·exact iC xs (n+2) r k h (by omega)
   ·cases h
def shp (l:List Int):Prop:=bR 1 l=some []
instance (l:List Int):Decidable (shp l):=inferInstanceAs (Decidable (bR 1 l=some []))
theorem shp.at {l:List Int} (h:shp l) {i:Nat} (hi:i<l.length):bR 1 (l.drop i)=some (l.drop (bo l i))/\i<bo l i/\bo l i<=l.length:=by
 obtain⟨r,hr,_⟩:=iC l 1 [] i h (by simpa using hi)
 obtain⟨h1,h2,h3⟩:=ky hr
 exact⟨by rw[hr,h3],h1,h2⟩
theorem shp.two {l:List Int} (h:shp l) {i:Nat} (hi:i<l.length) (h2:l.getD i 0=2):i+1<l.length/\i+1<bo l (i+1)/\bo l (i+1)<l.length/\bo l (bo l (i+1))=bo l i/\bo l (i+1)<bo l i:=by
 obtain⟨e,h3,h4⟩:=h.at hi
 rw[fW hi,cE 0,h2] at e
 simp only[show(2:Int)≠0 by decide,if_false,if_true] at e
 rw[show 0+2=1+1 from rfl,fV _ 1 1] at e
 obtain⟨m,hm,hr⟩:=Option.bind_eq_some_iff.1 e
 obtain⟨k1,k2,k3⟩:=ky hm
 have hne:bo l (i+1)<l.length:=by
  by_cases hh:bo l (i+1)<l.length
  ·exact hh
  ·rw[List.drop_eq_nil_of_le (by omega)] at k3
   subst k3;rw[fU] at hr;cases hr
 rw[k3] at hr
 obtain⟨j1,j2,j3⟩:=ky hr
 have hlen:=congrArg List.length j3
 simp only[List.length_drop] at hlen
 have:bo l (bo l (i+1))=bo l i:=by omega
 exact⟨by omega,k1,hne,this,by omega⟩
theorem shp.zeroTwo {l:List Int} (h:shp l) {i:Nat} (hi:i<l.length):l.getD i 0=0\/l.getD i 0=2:=by
 obtain⟨e,h3,h4⟩:=h.at hi
 rw[fW hi,cE 0] at e
 split at e
 ·exact .inl ‹_›
 ·split at e
  ·exact .inr ‹_›
  ·cases e
theorem shp.nest {l:List Int} (h:shp l) {i k:Nat} (hi:i<=k) (hk:k<bo l i) (hil:i<l.length):bo l k<=bo l i:=by
 obtain⟨e,h3,h4⟩:=h.at hil
 obtain⟨r',hr',hle⟩:=iC _ 1 _ (k-i) e (by simp only[List.length_drop];omega)
 rw[List.drop_drop,show i+(k-i)=k by omega] at hr'
 obtain⟨j1,j2,j3⟩:=ky hr'
 rw[j3] at hle
 simp only[List.length_drop] at hle
 omega
def c0 (l:List Int) (j k:Nat):Bool:=decide (l.getD k 0=2)&&(decide (k+1=j)||decide (bo l (k+1)=j))
def lL (l:List Int) (j:Nat):Nat->Int
 |0=>-1
 |n+1=>if c0 l j n then(n:Int) else lL l j n
theorem jc (l:List Int) (j n:Nat):lL l j (n+1)=if c0 l j n then(n:Int) else lL l j n:=rfl
def iR (l:List Int) (i:Nat):Int:=if l.getD i 0=2 then((i+1:Nat):Int) else -1
def ge (l:List Int) (i:Nat):Int:=if l.getD i 0=2 then(bo l (i+1):Int) else -1
def cw (l:List Int) (i:Nat):Int:=lL l i i
theorem pE (l:List Int) (j n:Nat):lL l j n=-1\/∃k,k<n/\lL l j n=k/\c0 l j k=true:=by
 induction n with
 |zero=>exact .inl rfl
 |succ n ih=>
  unfold lL
  split
  ·exact .inr ⟨n,by omega,rfl,‹_›⟩
  ·rcases ih with h|⟨k,h1,h2,h3⟩
   ·exact .inl h
   ·exact .inr ⟨k,by omega,h2,h3⟩
theorem xZ {l:List Int} {j n k:Nat} (hk:k<n) (h:c0 l j k=true) (hu:∀m,k<m->m<n->c0 l j m=false):lL l j n=k:=by
 induction n with
 |zero=>omega
 |succ n ih=>
  unfold lL
  by_cases e:k=n
  ·subst e;rw[if_pos h]
  ·rw[if_neg (by rw[hu n (by omega) (by omega)];simp)]
   exact ih (by omega) fun m h1 h2=>hu m h1 (by omega)
theorem zp {l:List Int} {j n m:Nat} (hnm:n<=m) (hu:∀k,n<=k->k<m->c0 l j k=false):lL l j m=lL l j n:=by
 induction m with
 |zero=>rw[show n=0 by omega]
 |succ m ih=>
  by_cases e:n=m+1
  ·rw[e]
  ·rw[jc,if_neg (by rw[hu m (by omega) (by omega)];simp)]
   exact ih (by omega) fun k h1 h2=>hu k h1 (by omega)
theorem Bn {l:List Int} (h:shp l) {j k:Nat} (hk:k<l.length) (hp:c0 l j k=true):k<j/\j<l.length:=by
 simp only[c0,Bool.and_eq_true,Bool.or_eq_true,decide_eq_true_eq] at hp
 obtain⟨h2,hp⟩:=hp
 obtain⟨a,b,c,d,e⟩:=h.two hk h2
 omega
theorem Bo {l:List Int} (h:shp l) {j:Nat} (hj:j<l.length):lL l j l.length=cw l j:=by
 unfold cw
 refine zp (by omega) fun k h1 h2=>?_
 cases e:c0 l j k
 ·rfl
 ·have:=Bn h h2 e;omega
theorem qJ {l:List Int} (h:shp l) {i:Nat} (hi:i<l.length) (h2:l.getD i 0=2):cw l (i+1)=i:=by
 unfold cw
 exact xZ (by omega) (by simp[c0,h2,-List.getD_eq_getElem?_getD]) fun m h1 h3=>by omega
theorem pF {l:List Int} (h:shp l) {i:Nat} (hi:i<l.length) (h2:l.getD i 0=2):cw l (bo l (i+1))=i:=by
 obtain⟨a,b,c,d,e⟩:=h.two hi h2
 unfold cw
 refine xZ (by omega) (by simp[c0,h2,-List.getD_eq_getElem?_getD]) fun m h1 h3=>?_
 cases hp:c0 l (bo l (i+1)) m
 ·rfl
 ·simp only[c0,Bool.and_eq_true,Bool.or_eq_true,decide_eq_true_eq] at hp
  obtain⟨hm2,hp⟩:=hp
  obtain⟨a',b',c',d',e'⟩:=h.two (i:=m) (by omega) hm2
  have:=h.nest (i:=i+1) (k:=m) (by omega) h3 (by omega)
  omega
set_option maxRecDepth 100000
def bv (l:List Int):cn:=.row 3 0 an l
theorem x3 {l l':List Int} (lm:cT) (h:l=l'):md lm 400 (some (bv l)) (bv l'):=by subst h;rfl
theorem Bp (k:Nat) (hn:k<=1000):ak Tryz.prog 230 [.int .i64 (k:Int)] (aj.ofL []) (fun u M=>∃ℓ0,u= .row ℓ0 k 1/\M ℓ0=some (bv (List.replicate k (-1)))):=by
 refine ak.intro ac ag [] Tryz.func230 rfl (by decide) ?_
 conv=>whnf
 rw[if_neg (by omega)]
 refine xF 0 an 0 rfl (by dsimp only;omega) ?_
 rw[tN]
 conv=>whnf
 repeat' first|(refine at_ ?_;conv=>whnf)|(refine ah (fun _=>?_) (fun _=>?_)<;>conv=>whnf)
 refine aH.loop (fun i:Nat=>i<=k) (fun i=>(.top:: .top:: .top::(.row 7 k 1):: .top:: .top:: .top:: .top:: .top::(.int .i64 (k:Int))::(.int .i64 (i:Int))::T 7)) (fun i=>aj.ofL [(7,bv (List.replicate i (-1)++List.replicate (k-i) 0))]) (fun i=>k-i) 0 (by omega) (aL.by_ [(7, .old 7)] _ 400 rfl ⟨x3 _ (by simp),trivial⟩ (aa)) ?_
 intro i hi
 refine gY ac ag _ _ _ _ ?_
 conv=>whnf
 repeat' first|(refine at_ ?_;conv=>whnf)|(refine ah (fun _=>?_) (fun _=>?_)<;>conv=>whnf)
 ·refine⟨i+1,(aL.by_ [(7, .old 7)] _ 400 rfl ⟨x3 _ ?_,trivial⟩ (aa)),by omega,Nat.sub_lt_sub_left (by omega) (by omega)⟩
  rw[tN,List.set_append_right _ _ (by simp),List.length_replicate,Nat.sub_self,List.replicate_succ',List.append_assoc]
  congr 1
  rw[show k-i=(k-(i+1))+1 by omega,List.replicate_succ]
  rfl
 ·obtain rfl:i=k:=by omega
  refine⟨7,rfl,?_⟩
  show some _=_
  simp only[Nat.sub_self,List.replicate_zero,List.append_nil]
def pG (l:List Int) (n:Nat) (row:List Int):List (Nat×cn):=
 [(0, .box 3 [.int .i64 (n:Int)]),(2, .box 44 [.fn 195 [.ptr 0 0, .pd [.sl 0 an l], .ptr 2 0, .ptr 3 0]]),(3, .box 24 [.row 4 l.length 1]),(4,bv row)]
def Iq:cT:=[(0, .old 0),(2, .old 2),(3, .old 3),(4, .old 4)]
def IQ (l:List Int) (n:Nat) (row:List Int):AV->aj->Prop:=fun u M=>∃n' row',cU Iq 400 M (pG l n' row')/\row'.length=l.length/\n'<=l.length/\
 ((bR 1 (l.drop n)=some (l.drop n')/\u= .bool true/\n<n'/\∀k:Nat,row'.getD k 0=if n<=k/\k<n' then(bo l k:Int) else row.getD k 0)\/(bR 1 (l.drop n)=none/\u= .bool false))
theorem Bq {l:List Int} {i n:Nat} (hn:n<=l.length) (h:bR 1 (l.drop i)=some (l.drop n)):bo l i=n:=by
 obtain⟨h1,h2,h3⟩:=ky h
 have:=congrArg List.length h3
 simp only[List.length_drop] at this
 omega
theorem zq {l:List Int} {n:Nat} (h:¬n<l.length):bR 1 (l.drop n)=none:=by
 rw[List.drop_eq_nil_of_le (by omega)];rfl
theorem Br {l:List Int} {n:Nat} (h:n<l.length) (h0:l.getD n 0≠0) (h2:l.getD n 0≠2):bR 1 (l.drop n)=none:=by
 rw[fW h,cE 0,if_neg h0,if_neg h2]
theorem Bs {l:List Int} {n:Nat} (h:n<l.length) (h2:l.getD n 0=0\/l.getD n 0=2):bR 1 (l.drop n)=bR (l.getD n 0).toNat (l.drop (n+1)):=by
 rw[fW h,cE 0]
 rcases h2 with e|e
 ·rw[e];rfl
 ·rw[e];rfl
theorem wI {l:List Int} {a c n n2:Nat} (h:bR c (l.drop a)=some (l.drop n)) (h2:bR 1 (l.drop n)=some (l.drop n2)):bR (c+1) (l.drop a)=some (l.drop n2):=by
 rw[fV,h];exact h2
theorem wJ {l:List Int} {a c d n:Nat} (h:bR c (l.drop a)=some (l.drop n)) (h2:bR 1 (l.drop n)=none) (hc:c<d):bR d (l.drop a)=none:=by
 rw[show d=c+(1+(d-c-1)) by omega,fV,h]
 show bR _ _=none
 rw[fV,h2];rfl
theorem IR (l:List Int) (hl:l.length<=1000):∀(m n:Nat) (row:List Int),l.length-n=m->n<=l.length->row.length=l.length->
  ak Tryz.prog 195 [.ptr 0 0, .pd [.sl 0 an l], .ptr 2 0, .ptr 3 0] (aj.ofL (pG l n row)) (IQ l n row):=by
 intro m
 induction m using Nat.strongRecOn with
 |_ m ih=>
  intro n row hm hn hr
  refine ak.intro ac ag (pG l n row) Tryz.func195 rfl (by decide) ?_
  conv=>whnf
  by_cases hlt:n<l.length
  ·by_cases hv:l.getD n 0=0\/l.getD n 0=2
   ·have hw:=Bs hlt hv
    have hx:0<=l.getD n 0/\l.getD n 0<=2:=by omega
    have hto:((l.getD n 0).toNat:Int)=l.getD n 0:=by omega
    refine fI ?_
    conv=>whnf
    repeat' first|(refine at_ ?_;conv=>whnf)|(refine ah (fun _=>?_) (fun _=>?_)<;>conv=>whnf)
    ·rename_i h1 h2
     rw[tN] at h1 h2
     omega
    all_goals
     refine aH.loop (fun x:Nat×Nat×List Int=>x.1<=(l.getD n 0).toNat/\n+1<=x.2.1/\x.2.1<=l.length/\x.2.2.length=l.length/\bR x.1 (l.drop (n+1))=some (l.drop x.2.1)/\∀k:Nat,x.2.2.getD k 0=if n+1<=k/\k<x.2.1 then(bo l k:Int) else row.getD k 0)
      (fun x=>((.ptr 0 0)::(.pd [.sl 0 an l])::(.ptr 2 0)::(.ptr 3 0):: .top::(.int .i64 (n:Int)):: .top:: .top:: .top:: .top:: .top:: .top:: .top:: .top:: .top:: .top:: .top:: .top:: .top:: .top:: .top:: .top:: .top:: .top:: .top:: .top:: .top:: .top:: .top:: .top::(.int .i64 (l.getD n 0))::(.int .i64 (x.1:Int))::T 9)) (fun x=>aj.ofL (pG l x.2.1 x.2.2)) (fun x=>(l.getD n 0).toNat-x.1) (0,n+1,row) ⟨by dsimp only;omega,by dsimp only;omega,by dsimp only;omega,hr,fc _,fun k=>by rw[if_neg (by dsimp only;omega)]⟩ (aL.by_ Iq _ 400 rfl (aa) (aa)) ?_
     rintro⟨c,n1,row1⟩ ⟨hc,h1,h2,h3,h4,h5⟩
     dsimp only at hc h1 h2 h3 h4 h5⊢
     refine gY ac ag _ _ _ _ ?_
     conv=>whnf
     refine ah (fun hcx=>?_) (fun hcx=>?_)<;>conv=>whnf
     ·refine ak.call Iq (pG l n1 row1) 400 rfl (aa) (aa) (ih (l.length-n1) (by omega) n1 row1 rfl h2 h3) ?_
      rintro u M' ⟨n2,row2,hm2,hl2,hn2,hh⟩
      rcases hh with ⟨e1,rfl,e2,e3⟩|⟨e1,rfl⟩
      ·refine⟨Iq,pG l n2 row2, .bool true,rfl,hm2,rfl,?_⟩
       conv=>whnf
       repeat' first|(refine at_ ?_;conv=>whnf)|(refine ah (fun _=>?_) (fun _=>?_)<;>conv=>whnf)
       refine⟨(c+1,n2,row2),(aL.by_ Iq _ 400 rfl (aa) (aa)),⟨by dsimp only;omega,by dsimp only;omega,hn2,hl2,wI h4 e1,fun k=>?_⟩,Nat.sub_lt_sub_left (by dsimp only;omega) (by dsimp only;omega)⟩
       dsimp only
       rw[e3 k,h5 k]
       by_cases ha:n1<=k/\k<n2
       ·rw[if_pos ha,if_pos (by omega)]
       ·rw[if_neg ha]
        by_cases hb:n+1<=k/\k<n1
        ·rw[if_pos hb,if_pos (by omega)]
        ·rw[if_neg hb,if_neg (by omega)]
      ·refine⟨Iq,pG l n2 row2, .bool false,rfl,hm2,rfl,?_⟩
       conv=>whnf
       refine⟨n2,row2,(aa),hl2,hn2, .inr ⟨?_,rfl⟩⟩
       rw[hw]
       exact wJ h4 e1 (by omega)
     ·have hc2:c=(l.getD n 0).toNat:=by omega
      rw[hc2,<-hw] at h4
      have he:=Bq h2 h4
      repeat' first|(refine at_ ?_;conv=>whnf)|(refine ah (fun _=>?_) (fun _=>?_)<;>conv=>whnf)
      refine⟨n1,row1.set n n1,(aa),by rw[List.length_set,h3],h2, .inl ⟨h4,rfl,by omega,fun k=>?_⟩⟩
      rw[gD,List.getElem?_set]
      by_cases hk:n=k
      ·subst hk
       rw[if_pos rfl,if_pos (by omega),if_pos (by omega),he]
       rfl
      ·rw[if_neg hk,<-gD,h5 k]
       by_cases hb:n+1<=k/\k<n1
       ·rw[if_pos hb,if_pos (by omega)]
       ·rw[if_neg hb,if_neg (by omega)]
   ·have hb:=Br hlt (fun h=>hv (.inl h)) (fun h=>hv (.inr h))
    repeat' first|(refine at_ ?_;conv=>whnf)|(refine ah (fun _=>?_) (fun _=>?_)<;>conv=>whnf)
    ·exact⟨n,row,(aa),hr,hn, .inr ⟨hb,rfl⟩⟩
    all_goals
     exfalso
     simp only[tN] at*
     omega
  ·have hb:=zq hlt
   repeat' first|(refine at_ ?_;conv=>whnf)|(refine ah (fun _=>?_) (fun _=>?_)<;>conv=>whnf)
   exact⟨n,row,(aa),hr,hn, .inr ⟨hb,rfl⟩⟩
set_option maxRecDepth 100000
theorem c5 (l:List Int) (i k:Nat) (v:Int):(l.set i v).getD k 0=if i=k/\i<l.length then v else l.getD k 0:=by
 rw[gD,List.getElem?_set]
 by_cases h:i=k
 ·subst h
  by_cases h2:i<l.length
  ·simp[h2]
  ·simp[h2,gD]
 ·simp[h,gD]
theorem mv {l:List Int} {n:Nat} (hl:l.length=n) {g:Nat->Int} (h:∀k,k<n->l.getD k 0=g k):l=(List.range n).map g:=by
 apply List.ext_getElem
 ·simp[hl]
 ·intro i h1 h2
  have:=h i (by omega)
  rw[gD,gL h1] at this
  simpa using this
theorem jd (n k:Nat) (v:Int) (h:k<n):(List.replicate n v).getD k 0=v:=by
 simp[gD,List.getElem?_replicate,h]
theorem aX (n k:Nat) (g:Nat->Int) (h:k<n):((List.range n).map g).getD k 0=g k:=by
 simp[gD,h]
instance (l:List Int):Decidable (shp l):=inferInstanceAs (Decidable (bR 1 l=some []))
def mw (l:List Int):List Int:=(List.range l.length).map fun i=>(bo l i:Int)
theorem x4 {l:List Int} (h:shp l):0<l.length:=by
 cases l with
 |nil=>cases h
 |cons x l=>simp
def IU (l:List Int) (n:Nat) (row:List Int):AV->aj->Prop:=fun u M=>∃n' row',M=aj.ofL (pG l n' row')/\row'.length=l.length/\n'<=l.length/\
 ((bR 1 (l.drop n)=some (l.drop n')/\u= .bool true/\n<n'/\∀k:Nat,row'.getD k 0=if n<=k/\k<n' then(bo l k:Int) else row.getD k 0)\/(bR 1 (l.drop n)=none/\u= .bool false))
theorem IV (l:List Int) (hl:l.length<=1000) (n:Nat) (row:List Int) (hn:n<=l.length) (hr:row.length=l.length):
  ak Tryz.prog 195 [.ptr 0 0, .pd [.sl 0 an l], .ptr 2 0, .ptr 3 0] (aj.ofL (pG l n row)) (IU l n row):=by
 refine ak.norm 400 (IR l hl _ n row rfl hn hr) ?_
 rintro u M' ⟨n2,row2,hm2,hl2,hn2,hh⟩
 refine⟨pG l n2 row2,u,rfl,hm2,?_,n2,row2,rfl,hl2,hn2,hh⟩
 rcases hh with ⟨_,rfl,_⟩|⟨_,rfl⟩<;>rfl
theorem x5 (l:List Int) (hl:l.length<=1000):ab Tryz.prog 120 [.sl 0 an l] (fun u=>u=if shp l then .sl 0 an (mw l) else .nilsl):=by
 refine ab.intro ac ag Tryz.func120 rfl (by decide) ?_;(conv=>whnf)
 refine al rfl ?_
 conv=>whnf
 refine xF 0 an 0 rfl (by dsimp only;omega) ?_
 rw[tN]
 conv=>whnf
 repeat' first|(refine at_ ?_;conv=>whnf)|(refine ah (fun _=>?_) (fun _=>?_)<;>conv=>whnf)
 refine ak.call [(0, .old 4),(2, .old 5),(3, .old 3),(4, .old 8)] (pG l 0 (List.replicate l.length 0)) 400 rfl (aa) (aa) (IV l hl 0 (List.replicate l.length 0) (by omega) (by simp)) ?_
 rintro u M' ⟨n2,row2,rfl,hl2,hn2,hh⟩
 rcases hh with ⟨h1,rfl,h2,h3⟩|⟨h1,rfl⟩
 ·refine⟨[(4, .old 0),(5, .old 2),(3, .old 3),(8, .old 4)],[(4, .box 3 [.int .i64 (n2:Int)]),(5, .box 44 [.fn 195 [.ptr 4 0, .pd [.sl 0 an l], .ptr 5 0, .ptr 3 0]]),(3, .box 24 [.row 8 l.length 1]),(8,bv row2)], .bool true,rfl,(aa),rfl,?_⟩
  conv=>whnf
  rw[List.drop_zero] at h1
  repeat' first|(refine at_ ?_;conv=>whnf)|(refine ah (fun _=>?_) (fun _=>?_)<;>conv=>whnf)
  ·rename_i hne
   rw[if_neg]
   ·exact⟨rfl,rfl⟩
   ·intro hs
    rw[shp,h1,Option.some.injEq] at hs
    have:=congrArg List.length hs
    simp at this
    omega
  ·rename_i hne
   obtain rfl:n2=l.length:=by omega
   rw[List.drop_length] at h1
   rw[if_pos (show shp l from h1)]
   refine⟨F1 (mv hl2 fun k hk=>?_),rfl⟩
   rw[h3 k,if_pos (by omega)]
 ·refine⟨[(4, .old 0),(5, .old 2),(3, .old 3),(8, .old 4)],[(4, .box 3 [.int .i64 (n2:Int)]),(5, .box 44 [.fn 195 [.ptr 4 0, .pd [.sl 0 an l], .ptr 5 0, .ptr 3 0]]),(3, .box 24 [.row 8 l.length 1]),(8,bv row2)], .bool false,rfl,(aa),rfl,?_⟩
  conv=>whnf
  rw[List.drop_zero] at h1
  repeat' first|(refine at_ ?_;conv=>whnf)|(refine ah (fun _=>?_) (fun _=>?_)<;>conv=>whnf)
  rw[if_neg (by rw[shp,h1];intro h;cases h)]
  exact⟨rfl,rfl⟩
def pH (t:Int) (l:List Int) (n:Nat):Bool:=decide (t=4->shp l/\l.length=n)
def pJ (t:Int) (l:List Int) (n i:Nat):Int:=if t=2 then(i:Int)-1 else if t=3 then(if i=0 then(n:Int)-1 else(i:Int)-1) else if t=4/\pH t l n=true then iR l i else -1
def pK (t:Int) (l:List Int) (n i:Nat):Int:=if t=2 then(if i+1=n then -1 else(i:Int)+1) else if t=3 then(if i+1=n then 0 else(i:Int)+1) else if t=4/\pH t l n=true then ge l i else -1
def qK (t:Int) (l:List Int) (n i:Nat):Int:=if t=4/\pH t l n=true then cw l i else -1
def Bt (t:Int) (l:List Int) (n:Nat):AV:=.agg [.sl 0 an ((List.range n).map (pJ t l n)), .sl 0 an ((List.range n).map (pK t l n)), .sl 0 an ((List.range n).map (qK t l n))]
theorem kz {t:Int} {l:List Int} {n:Nat} {f s p:List Int} {b:Bool} (hf:f.length=n) (hs:s.length=n) (hp:p.length=n) (h:∀k,k<n->f.getD k 0=pJ t l n k/\s.getD k 0=pK t l n k/\p.getD k 0=qK t l n k) (hb:b=pH t l n):
  AV.tup [.agg [.sl 0 an f, .sl 0 an s, .sl 0 an p], .bool b]= .tup [Bt t l n, .bool (pH t l n)]:=by
 rw[hb,Bt,mv hf fun k hk=>(h k hk).1,mv hs fun k hk=>(h k hk).2.1,mv hp fun k hk=>(h k hk).2.2]
def IW (n:Nat) (f s p:List Int):List (Nat×cn):=[(6, .box 180 [.nilsl, .nilsl, .nilsl]),(8, .box 180 [.row 14 n 1, .row 16 n 1, .row 18 n 1]),(14,bv f),(16,bv s),(18,bv p)]
theorem IX (t:Int) (l:List Int) (n:Nat) (hl:l.length<=1000) (hn:n<=1000):ab Tryz.prog 196 [.int .i64 t, .sl 0 an l, .int .i64 (n:Int)] (fun u=>u= .tup [Bt t l n, .bool (pH t l n)]):=by
 refine ab.intro ac ag Tryz.func196 rfl (by decide) ?_;(conv=>whnf)
 refine ak.fresh 14 (Bp n hn) rfl (aa) ?_
 conv=>whnf
 refine ak.fresh 16 (Bp n hn) rfl (aa) ?_
 conv=>whnf
 refine ak.fresh 18 (Bp n hn) rfl (aa) ?_
 conv=>whnf
 by_cases h23:t=2\/t=3
 ·repeat' first|(refine at_ ?_;conv=>whnf)|(refine ah (fun _=>?_) (fun _=>?_)<;>conv=>whnf)
  all_goals
   refine aH.loopF ac ag (fun((i,f,s):Nat×List Int×List Int)=>i<=n/\f.length=n/\s.length=n/\∀k,k<n->f.getD k 0=(if k<i then(k:Int)-1 else -1)/\s.getD k 0=if k<i then(k:Int)+1 else -1) (fun(i,_,_)=>[(25, .int .i64 (i:Int))]) (fun(_,f,s)=>IW n f s (List.replicate n (-1))) (fun(i,_,_)=>n-i) (0,List.replicate n (-1),List.replicate n (-1)) ⟨Nat.zero_le _,List.length_replicate,List.length_replicate,fun k hk=>by rw[jd _ _ _ hk,if_neg (by simp),if_neg (by simp)];exact⟨rfl,rfl⟩⟩ ?_;conv=>whnf
   refine⟨sI,?_⟩
   rintro⟨i,f,s⟩ ⟨hi,hf,hs,hp⟩
   conv=>whnf
   repeat' first|(refine at_ ?_;conv=>whnf)|(refine ah (fun _=>?_) (fun _=>?_)<;>conv=>whnf)
   ·refine⟨(i+1,f.set i ((i:Int)-1),s.set i ((i:Int)+1)),sI,⟨by omega,by simpa using hf,by simpa using hs,fun k hk=>?_⟩,by dsimp only;omega⟩
    rw[c5,c5,(hp k hk).1,(hp k hk).2]
    constructor<;>(repeat' split)<;>omega
   all_goals
    refine⟨kz (by simpa using hf) (by simpa using hs) (by simp) (fun k hk=>?_) (by unfold pH;rw[decide_eq_true];intro h;omega),rfl⟩
    simp only[c5,List.length_set,(hp k hk).1,(hp k hk).2,jd _ _ _ hk]
    unfold pJ pK qK
    refine⟨?_,?_,?_⟩<;>(repeat' split)<;>omega
 ·by_cases h4:t=4
  ·subst h4
   repeat' first|(refine at_ ?_;conv=>whnf)|(refine ah (fun _=>?_) (fun _=>?_)<;>conv=>whnf)
   by_cases hsh:shp l
   ·have he:=x5 l hl
    rw[if_pos hsh] at he
    have hel:(mw l).length=l.length:=by simp[mw]
    have hpos:=x4 hsh
    (refine oP (he) ?_;conv=>whnf)
    refine bI (by intro h;rw[h] at hel;simp at hel;omega) ?_
    conv=>whnf
    by_cases hln:l.length=n
    ·subst hln
     repeat' first|(refine at_ ?_;conv=>whnf)|(refine ah (fun _=>?_) (fun _=>?_)<;>conv=>whnf)
     refine aH.loopF ac ag (fun((i,f,s,p):Nat×List Int×List Int×List Int)=>i<=l.length/\f.length=l.length/\s.length=l.length/\p.length=l.length/\∀k,k<l.length->f.getD k 0=(if k<i then iR l k else -1)/\s.getD k 0=(if k<i then ge l k else -1)/\p.getD k 0=lL l k i) (fun(i,_,_,_)=>[(79, .int .i64 (i:Int))]) (fun(_,f,s,p)=>IW l.length f s p) (fun(i,_,_,_)=>l.length-i) (0,List.replicate l.length (-1),List.replicate l.length (-1),List.replicate l.length (-1)) ⟨Nat.zero_le _,List.length_replicate,List.length_replicate,List.length_replicate,fun k hk=>by rw[jd _ _ _ hk,if_neg (by simp),if_neg (by simp)];exact⟨rfl,rfl,rfl⟩⟩ ?_;conv=>whnf
     refine⟨sI,?_⟩
     rintro⟨i,f,s,p⟩ ⟨hi,hf,hs,hp,hall⟩
     conv=>whnf
     refine ah (fun hlt=>?_) (fun hlt=>?_)<;>conv=>whnf
     ·have hil:i<l.length:=by omega
      by_cases h2:l.getD (i:Int).toNat 0=2
      ·obtain⟨a1,a2,a3,a4,a5⟩:=hsh.two hil (by simpa using h2)
       have hv:(mw l).getD ((i:Int)+1).toNat 0=(bo l (i+1):Int):=by
        rw[show((i:Int)+1).toNat=i+1 by omega]
        exact aX _ _ _ a1
       repeat' first|(refine at_ ?_;conv=>whnf)|(refine ah (fun _=>?_) (fun _=>?_)<;>conv=>whnf)
       refine⟨(i+1,f.set i ((i:Int)+1),s.set i ((mw l).getD ((i:Int)+1).toNat 0),(p.set ((i:Int)+1).toNat i).set ((mw l).getD ((i:Int)+1).toNat 0).toNat i),sI,⟨by omega,by simpa using hf,by simpa using hs,by simpa using hp,fun k hk=>?_⟩,by dsimp only;omega⟩
       obtain⟨b1,b2,b3⟩:=hall k hk
       rw[c5,c5,c5,c5,List.length_set,hv,b1,b2,b3,jc]
       rw[tN] at h2
       refine⟨?_,?_,?_⟩
       ·by_cases hik:i=k
        ·subst hik;rw[if_pos (by omega),if_pos (by omega),iR,if_pos h2];omega
        ·rw[if_neg (by omega)];(repeat' split)<;>first|rfl|omega
       ·by_cases hik:i=k
        ·subst hik;rw[if_pos (by omega),if_pos (by omega),ge,if_pos h2]
        ·rw[if_neg (by omega)];(repeat' split)<;>first|rfl|omega
       ·by_cases hpk:c0 l k i=true
        ·rw[if_pos hpk]
         simp only[c0,Bool.and_eq_true,Bool.or_eq_true,decide_eq_true_eq] at hpk
         rcases hpk.2 with e|e
         ·by_cases hx:(bo l (i+1):Int).toNat=k
          ·rw[if_pos (by omega)]
          ·rw[if_neg (by omega),if_pos (by omega)]
         ·rw[if_pos (by omega)]
        ·rw[if_neg hpk]
         simp only[c0,h2,decide_true,Bool.true_and,Bool.or_eq_true,decide_eq_true_eq,not_or] at hpk
         rw[if_neg (by omega),if_neg (by omega)]
      ·repeat' first|(refine at_ ?_;conv=>whnf)|(refine ah (fun _=>?_) (fun _=>?_)<;>conv=>whnf)
       refine⟨(i+1,f,s,p),sI,⟨by omega,hf,hs,hp,fun k hk=>?_⟩,by dsimp only;omega⟩
       obtain⟨b1,b2,b3⟩:=hall k hk
       rw[tN] at h2
       rw[b1,b2,b3,jc,if_neg (show¬c0 l k i=true by simp[c0];intro h;exact absurd h h2)]
       refine⟨?_,?_,rfl⟩
       ·by_cases hik:i=k
        ·subst hik;rw[if_neg (by omega),if_pos (by omega),iR,if_neg h2]
        ·(repeat' split)<;>first|rfl|omega
       ·by_cases hik:i=k
        ·subst hik;rw[if_neg (by omega),if_pos (by omega),ge,if_neg h2]
        ·(repeat' split)<;>first|rfl|omega
     ·obtain rfl:i=l.length:=by omega
      have hlk:pH 4 l l.length=true:=by unfold pH;rw[decide_eq_true];exact fun _=>⟨hsh,rfl⟩
      refine⟨kz hf hs hp (fun k hk=>?_) hlk.symm,rfl⟩
      obtain⟨b1,b2,b3⟩:=hall k hk
      rw[b1,b2,b3,if_pos hk,if_pos hk,Bo hsh hk]
      simp[pJ,pK,qK,hlk]
    ·repeat' first|(refine at_ ?_;conv=>whnf)|(refine ah (fun _=>?_) (fun _=>?_)<;>conv=>whnf)
     have hlk:pH 4 l n=false:=by unfold pH;rw[decide_eq_false];exact fun h=>hln (h rfl).2
     refine⟨kz (by simp) (by simp) (by simp) (fun k hk=>?_) hlk.symm,rfl⟩
     rw[jd _ _ _ hk,pJ,pK,qK,hlk]
     exact⟨rfl,rfl,rfl⟩
   ·have he:=x5 l hl
    rw[if_neg hsh] at he
    (refine oP (he) ?_;conv=>whnf)
    repeat' first|(refine at_ ?_;conv=>whnf)|(refine ah (fun _=>?_) (fun _=>?_)<;>conv=>whnf)
    have hlk:pH 4 l n=false:=by unfold pH;rw[decide_eq_false];exact fun h=>hsh (h rfl).1
    refine⟨kz (by simp) (by simp) (by simp) (fun k hk=>?_) hlk.symm,rfl⟩
    rw[jd _ _ _ hk,pJ,pK,qK,hlk]
    exact⟨rfl,rfl,rfl⟩
  ·repeat' first|(refine at_ ?_;conv=>whnf)|(refine ah (fun _=>?_) (fun _=>?_)<;>conv=>whnf)
   refine⟨kz (by simp) (by simp) (by simp) (fun k hk=>?_) (by unfold pH;rw[decide_eq_true];intro h;omega),rfl⟩
   rw[jd _ _ _ hk,pJ,pK,qK,if_neg (by omega),if_neg (by omega),if_neg (by omega),if_neg (by omega),if_neg (by omega),if_neg (by omega),if_neg (by omega)]
   exact⟨rfl,rfl,rfl⟩
set_option maxRecDepth 100000
def JS (t:Int) (l:List Int) (n i:Int):Int×Int×Int:=
 if i<0\/n<=i then(-1,-1,-1) else if t=2 then(i-1,(if i+1=n then -1 else i+1),-1)
 else if t=3 then((if i-1<0 then n-1 else i-1),(if i+1=n then 0 else i+1),-1)
 else if t=4/\(l.length:Int)=n/\shp l then(iR l i.toNat,ge l i.toNat,cw l i.toNat) else(-1,-1,-1)
def IY (x:Int×Int×Int):AV:=.tup [.int .i64 x.1, .int .i64 x.2.1, .int .i64 x.2.2]
theorem iE {a b c:Int} {x:Int×Int×Int} (h:x=(a,b,c)):AV.tup [.int .i64 a, .int .i64 b, .int .i64 c]=IY x:=by rw[h];rfl
set_option maxRecDepth 100000
structure aR where
 shape:List Int
 states:List Int
 correct:Int
 sent:List Int
 faulty:List Int
 value:Int
def aW (c:aR):List AV:=[.sl 0 an c.shape, .sl 0 an c.states, .int .i64 c.correct, .sl 0 an c.sent, .sl 0 an c.faulty, .int .i64 c.value]
def fC:aR:=⟨[],[],0,[],[],0⟩
def ct (c:aR):Bool:=decide (100<c.shape.length)||decide (100<c.states.length)||decide (100<c.sent.length)||decide (100<c.faulty.length)
def cz:List Int->Int
 |[]=>0
 |x::l=>if x≠0 then x else cz l
theorem uP {l:List Int} {k:Nat} (h:k<l.length):cz (l.drop k)=if l.getD k 0≠0 then l.getD k 0 else cz (l.drop (k+1)):=by
 rw[fW h];rfl
theorem Bu (a b:List Int):eJ b a=-eJ a b:=by
 induction a generalizing b with
 |nil=>cases b<;>rfl
 |cons x xs ih=>
  cases b with
  |nil=>rfl
  |cons y ys=>
   simp only[eJ]
   by_cases h1:x<y
   ·rw[if_neg (by omega),if_pos h1,if_pos h1];rfl
   ·by_cases h2:y<x
    ·rw[if_pos h2,if_neg h1,if_pos h2]
    ·rw[if_neg h2,if_neg h1,if_neg h1,if_neg h2,ih]
def Ez (x y z:Int):Prop:=(x<=0->y<=0->z<=0)/\(x=0->y=0->z=0)/\(x<0->y<=0->z<0)/\(x<=0->y<0->z<0)
theorem Ez.or {x y z:Int} {xs ys zs:List Int} (h:Ez x y z) (h':Ez (cz xs) (cz ys) (cz zs)):Ez (cz (x::xs)) (cz (y::ys)) (cz (z::zs)):=by
 obtain⟨a1,a2,a3,a4⟩:=h
 obtain⟨b1,b2,b3,b4⟩:=h'
 simp only[cz]
 refine⟨?_,?_,?_,?_⟩<;>(repeat' split)<;>omega
theorem Ez.z (a b c:Int):Ez (sO a b) (sO b c) (sO a c):=by
 unfold Ez sO
 refine⟨?_,?_,?_,?_⟩<;>(repeat' split)<;>omega
theorem Ez.l (a b c:List Int):Ez (eJ a b) (eJ b c) (eJ a c):=by
 have tr:=Bk.trans a b c
 have e1:eJ a b=0->eJ a c=eJ b c:=fun h=>by rw[oz h]
 have e2:eJ b c=0->eJ a c=eJ a b:=fun h=>by rw[oz h]
 have e3:eJ a c=0->eJ b c=-eJ a b:=fun h=>by rw[oz h,<-Bu]
 refine⟨tr,?_,?_,?_⟩<;>omega
end Go.Proofs.YtnjggjhkfncnlaaGreatDoor
