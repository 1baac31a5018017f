import Derived.Test.YtekmminpfhacpaaGreatDoorPA
import Derived.Test.YtekmminpfhacpaaGreatDoorHA
import Derived.Test.YtekmminpfhacpaaGreatDoorGA
import Derived.Test.YtekmminpfhacpaaGreatDoorFL
set_option linter.unusedVariables false
set_option linter.unusedSimpArgs false
namespace Go.Proofs.YtekmminpfhacpaaGreatDoor
set_option maxRecDepth 100000
set_option maxHeartbeats 4000000
def di (f:Nat->Int):Nat->Int
 |0=>0
 |n+1=>di f n+f n
theorem cK {f g:Nat->Int}:∀{n:Nat},(∀i,i<n->f i=g i)->di f n=di g n
 |0,_=>rfl
 |n+1,h=>by rw[di,di,cK (n:=n) fun i hi=>h i (by omega),h n (by omega)]
theorem gN {f:Nat->Int}:∀{n:Nat},(∀i,i<n->f i=0)->di f n=0
 |0,_=>rfl
 |n+1,h=>by rw[di,gN (n:=n) fun i hi=>h i (by omega),h n (by omega)];rfl
theorem vv {f:Nat->Int}:∀{n:Nat},(∀i,i<n->0<=f i)->0<=di f n
 |0,_=>Int.le_refl _
 |n+1,h=>by
  have a:=vv (n:=n) fun i hi=>h i (by omega)
  have b:=h n (by omega)
  rw[di];omega
theorem vw {g:Nat->Int} {m:Nat}:∀{n:Nat},m<=n->di (fun k=>if k<m then g k else 0) n=di g m
 |0,h=>by
  obtain rfl:m=0:=by omega
  rfl
 |n+1,h=>by
  by_cases e:m=n+1
  ·subst e
   exact cK fun i hi=>if_pos hi
  ·rw[di,vw (n:=n) (by omega),if_neg (by omega)]
   omega
theorem Bc {f g:Nat->Int} {i0:Nat}:∀{n:Nat},i0<n->(∀i,i<n->i≠i0->f i=g i)->di f n=di g n+f i0-g i0
 |0,hi,_=>by omega
 |n+1,hi,h=>by
  rw[di,di]
  by_cases e:i0=n
  ·subst e
   rw[cK fun i h2=>h i (by omega) (by omega)]
   omega
  ·rw[Bc (n:=n) (by omega) fun i h2=>h i (by omega),h n (by omega) (fun h2=>e h2.symm)]
   omega
theorem Bd (f g:Nat->Int):∀n,di (fun i=>f i+g i) n=di f n+di g n
 |0=>rfl
 |n+1=>by rw[di,di,di,Bd f g n];omega
theorem vy:∀n:Nat,di (fun _=>1) n=n
 |0=>rfl
 |n+1=>by rw[di,vy n];omega
theorem vz {c a:Co}:∀{l:List Vb},(∀v∈l,a v=0)->bk c a l=0
 |[],_=>rfl
 |v::l,h=>by rw[bk,h v List.mem_cons_self,vz (l:=l) fun x hx=>h x (List.mem_cons_of_mem _ hx)];simp
theorem pn {c:Co} {v0:Vb} {k:Int}:∀{l:List Vb},l.Nodup->v0∈l->bk c (fun v=>if v=v0 then k else 0) l=c v0*k
 |[],_,h=>by cases h
 |v::l,hn,h=>by
  obtain⟨hv,hn⟩:=List.nodup_cons.1 hn
  rw[bk]
  by_cases e:v=v0
  ·subst e
   rw[if_pos rfl,vz fun x hx=>if_neg fun(e2:x=v)=>hv (e2▸hx)]
   omega
  ·rcases List.mem_cons.1 h with h|h
   ·exact absurd h.symm e
   ·rw[if_neg e,pn hn h];omega
theorem iK (c a b:Co):∀l:List Vb,bk c (fun v=>a v+b v) l=bk c a l+bk c b l
 |[]=>rfl
 |v::l=>by rw[bk,bk,bk,iK c a b l,Int.mul_add];omega
theorem GA {c:Co} {c0:az} {vars:List Vb} (hn:vars.Nodup):∀{n:Nat},(∀i,i<n->fV c0 i∈vars)->bk c (fun v=>cS c0 v n) vars=di (fun i=>c (fV c0 i)) n
 |0,_=>vz fun v _=>rfl
 |n+1,h=>by
  have e:(fun v=>cS c0 v (n+1))=fun v=>(fun v=>cS c0 v n) v+(fun v=>if v=fV c0 n then 1 else 0) v:=rfl
  rw[e,iK,GA hn fun i hi=>h i (by omega),pn hn (h n (by omega)),di]
  omega
theorem GB {c:Co} {c0:az} {xs:List bH} {seg:List Int} {vars:List Vb} (hn:vars.Nodup):∀{n:Nat},(∀k,k<n->lJ c0 xs seg k∈vars)->bk c (fun v=>cT c0 xs seg v n) vars=di (fun k=>c (lJ c0 xs seg k)) n
 |0,_=>vz fun v _=>rfl
 |n+1,h=>by
  have e:(fun v=>cT c0 xs seg v (n+1))=fun v=>(fun v=>cT c0 xs seg v n) v+(fun v=>if v=lJ c0 xs seg n then 1 else 0) v:=rfl
  rw[e,iK,GB hn fun i hi=>h i (by omega),pn hn (h n (by omega)),di]
  omega
theorem L6 {c:Co} {s:aJ} {vars:List Vb} (hn:vars.Nodup) (h0:(⟨0,0,0⟩:Vb)∈vars) (h1:(⟨1,0,0⟩:Vb)∈vars) (h2:(⟨2,0,0⟩:Vb)∈vars):
  bk c (pL s) vars=c ⟨0,0,0⟩*s.n+c ⟨1,0,0⟩*s.t+c ⟨2,0,0⟩*s.f:=by
 have e:pL s=fun v=>(fun v=>(fun v=>if v=⟨0,0,0⟩ then s.n else 0) v+(fun v=>if v=⟨1,0,0⟩ then s.t else 0) v) v+(fun v=>if v=⟨2,0,0⟩ then s.f else 0) v:=by
  funext v
  unfold pL
  dsimp only
  by_cases e0:v=⟨0,0,0⟩
  ·subst e0;simp
  ·by_cases e1:v=⟨1,0,0⟩
   ·subst e1;simp
   ·by_cases e2:v=⟨2,0,0⟩
    ·subst e2;simp
    ·simp[e0,e1,e2]
 rw[e,iK,iK,pn hn h0,pn hn h1,pn hn h2]
theorem L7 {c:Co} {s:aJ} {c0:az} {xs:List bH} {seg:List Int} {vars:List Vb} {n m:Nat} (hn:vars.Nodup) (h0:(⟨0,0,0⟩:Vb)∈vars) (h1:(⟨1,0,0⟩:Vb)∈vars) (h2:(⟨2,0,0⟩:Vb)∈vars)
  (hs:∀i,i<n->fV c0 i∈vars) (ht:∀k,k<m->lJ c0 xs seg k∈vars):
  bk c (ml s c0 xs seg n m) vars=c ⟨0,0,0⟩*s.n+c ⟨1,0,0⟩*s.t+c ⟨2,0,0⟩*s.f+di (fun i=>c (fV c0 i)) n+di (fun k=>c (lJ c0 xs seg k)) m:=by
 have e:ml s c0 xs seg n m=fun v=>(fun v=>pL s v+(fun v=>cS c0 v n) v) v+(fun v=>cT c0 xs seg v m) v:=rfl
 rw[e,iK,iK,L6 hn h0 h1 h2,GA hn hs,GB hn ht]
theorem qo {s:aJ} {c0:az} {xs:List bH} {seg:List Int} {n m:Nat} {v:Vb} (hv:v.kind<3):ml s c0 xs seg n m v=pL s v:=by
 have a:∀n,cS c0 v n=0:=fun n=>by
  induction n with
  |zero=>rfl
  |succ n ih=>
   rw[cS,ih,if_neg]
   ·rfl
   ·intro e
    have:=congrArg Vb.kind e
    unfold fV at this
    dsimp only at this
    split at this<;>omega
 have b:∀m,cT c0 xs seg v m=0:=fun m=>by
  induction m with
  |zero=>rfl
  |succ m ih=>
   rw[cT,ih,if_neg]
   ·rfl
   ·intro e
    have:=congrArg Vb.kind e
    unfold lJ at this
    dsimp only at this
    split at this<;>omega
 unfold ml
 rw[a,b]
 omega
theorem sa:∀(gs sch:List Int),∃t,dc sch gs=sch++t/\∀x∈t,x∈gs
 |[],sch=>⟨[],by simp[dc],by simp⟩
 |g::gs,sch=>by
  unfold dc
  split
  ·obtain⟨t,h1,h2⟩:=sa gs sch
   exact⟨t,h1,fun x hx=>List.mem_cons_of_mem _ (h2 x hx)⟩
  ·obtain⟨t,h1,h2⟩:=sa gs (sch++[g])
   refine⟨g::t,by rw[h1];simp,fun x hx=>?_⟩
   rcases List.mem_cons.1 hx with rfl|hx
   ·exact List.mem_cons_self
   ·exact List.mem_cons_of_mem _ (h2 x hx)
theorem tJ {a b:List Int} {j:Nat} (h:j<a.length):(a++b).getD j 0=a.getD j 0:=by
 rw[gD,List.getElem?_append_left h,<-gD]
theorem mP {a b:List Int} {j:Nat} (h:a.length<=j):(a++b).getD j 0=b.getD (j-a.length) 0:=by
 rw[gD,List.getElem?_append_right h,<-gD]
structure Oq (p:an) (s:aJ) (l:List az) (sch seg:List Int) (R:List Int×List Int):Prop where
 low:∀k,k<l.length->(sch.length:Int)<=R.2.getD (seg.length+k) 0
 mono:∀k,k+1<l.length->R.2.getD (seg.length+k) 0<=R.2.getD (seg.length+(k+1)) 0
 last:0<l.length->R.2.getD (seg.length+(l.length-1)) 0=R.1.length
 src:∀k,k<l.length->∀j:Nat,sch.length<=j->(j:Int)<R.2.getD (seg.length+k) 0->∃k',k'<=k/\R.1.getD j 0∈cU p s (l.getD k' aU) (ax p.rules).length
theorem vB (p:an) (s:aJ):∀(l:List az) (sch seg:List Int),Oq p s l sch seg (lH p s l sch seg)
 |[],sch,seg=>⟨fun k hk=>by simp at hk,fun k hk=>by simp at hk,fun h=>by simp at h,fun k hk=>by simp at hk⟩
 |c::l,sch,seg=>by
  obtain⟨t0,h0,h00⟩:=sa (cU p s c (ax p.rules).length) sch
  have hF:=ob p s l (dc sch (cU p s c (ax p.rules).length)) (seg++[((dc sch (cU p s c (ax p.rules).length)).length:Int)])
  obtain⟨g1,g2,g3,g4⟩:=vB p s l (dc sch (cU p s c (ax p.rules).length)) (seg++[((dc sch (cU p s c (ax p.rules).length)).length:Int)])
  have hl:(seg++[((dc sch (cU p s c (ax p.rules).length)).length:Int)]).length=seg.length+1:=by simp
  have e:lH p s (c::l) sch seg=lH p s l (dc sch (cU p s c (ax p.rules).length)) (seg++[((dc sch (cU p s c (ax p.rules).length)).length:Int)]):=rfl
  have h2:=hF.old seg.length (by omega)
  rw[mP (Nat.le_refl _),Nat.sub_self] at h2
  obtain⟨t,h1⟩:=hF.pre
  rw[hl] at g1 g2 g3 g4
  rw[<-e] at h1 h2 g1 g2 g3 g4
  generalize lH p s (c::l) sch seg=R at*
  have hz:R.2.getD seg.length 0=((dc sch (cU p s c (ax p.rules).length)).length:Int):=h2
  have hlen:(dc sch (cU p s c (ax p.rules).length)).length=sch.length+t0.length:=by rw[h0,List.length_append]
  have hsh:∀k,seg.length+(k+1)=seg.length+1+k:=fun k=>by omega
  refine⟨fun k hk=>?_,fun k hk=>?_,fun _=>?_,fun k hk j hj1 hj2=>?_⟩
  ·cases k with
   |zero=>rw[Nat.add_zero,hz];omega
   |succ k=>
    rw[hsh]
    have:=g1 k (by simpa using hk)
    omega
  ·cases k with
   |zero=>
    rw[Nat.add_zero,hz,hsh 0]
    exact g1 0 (by simpa using hk)
   |succ k=>
    rw[hsh,hsh (k+1)]
    have:=g2 k (by simpa using hk)
    rw[show seg.length+1+(k+1)=seg.length+1+(k+1) from rfl]
    exact this
  ·by_cases el:l.length=0
   ·have:l=[]:=List.length_eq_zero_iff.1 el
    subst this
    rw[show(c::([]:List az)).length-1=0 from rfl,Nat.add_zero,hz]
    have:R=(dc sch (cU p s c (ax p.rules).length),seg++[((dc sch (cU p s c (ax p.rules).length)).length:Int)]):=e
    rw[this]
   ·have:=g3 (by omega)
    rw[List.length_cons,show seg.length+(l.length+1-1)=seg.length+1+(l.length-1) by omega]
    exact this
  ·have hold:∀j:Nat,sch.length<=j->(j:Int)<((dc sch (cU p s c (ax p.rules).length)).length:Int)->R.1.getD j 0∈cU p s c (ax p.rules).length:=by
    intro j hj1 hj2
    rw[h1,tJ (by omega),h0,mP hj1]
    exact h00 _ (aB 0 (by omega))
   cases k with
   |zero=>
    rw[Nat.add_zero,hz] at hj2
    exact⟨0,Nat.le_refl _,hold j hj1 hj2⟩
   |succ k=>
    by_cases hj3:(j:Int)<((dc sch (cU p s c (ax p.rules).length)).length:Int)
    ·exact⟨0,Nat.zero_le _,hold j hj1 hj3⟩
    ·rw[hsh] at hj2
     obtain⟨k',a,b⟩:=g4 k (by simpa using hk) j (by omega) hj2
     exact⟨k'+1,by omega,b⟩
theorem Be {f:Nat->Int} {J:Int}:∀{n:Nat},(∀k,k+1<n->f k<=f (k+1))->∃m,m<=n/\∀k,k<n->(f k<J↔k<m)
 |0,_=>⟨0,Nat.le_refl _,fun k hk=>by omega⟩
 |n+1,h=>by
  obtain⟨m,hm,hk⟩:=Be (f:=f) (J:=J) (n:=n) fun k hk=>h k (by omega)
  by_cases e:m=n
  ·by_cases e2:f n<J
   ·refine⟨n+1,Nat.le_refl _,fun k h2=>⟨fun _=>h2,fun _=>?_⟩⟩
    by_cases e3:k=n
    ·subst e3;exact e2
    ·exact(hk k (by omega)).2 (by omega)
   ·refine⟨n,by omega,fun k h2=>?_⟩
    by_cases e3:k=n
    ·subst e3;exact⟨fun x=>absurd x e2,fun x=>by omega⟩
    ·subst e;exact hk k (by omega)
  ·refine⟨m,by omega,fun k h2=>?_⟩
   by_cases e3:k=n
   ·subst e3
    have a:=h (k-1) (by omega)
    rw[Nat.sub_add_cancel (by omega)] at a
    have b:=hk (k-1) (by omega)
    constructor
    ·intro x
     have:=b.1 (by omega)
     omega
    ·intro x;omega
   ·exact hk k (by omega)
def mc (K:Int) (b:Bool) (y:Int) (l:List Int) (n:Nat):Int:=di (fun i=>if decide ((i:Int)<K)=b/\l.getD i 0=y then 1 else 0) n
theorem Bf (K:Int) (b:Bool) (y:Int) (l:List Int) (n:Nat):0<=mc K b y l n:=vv fun i _=>by split<;>omega
def NG (p:an) (K:Int) (b:Bool) (y:Int) (xs:List bH) (k:Nat):Int:=if decide ((xs.getD k bI).process<K)=b then JM p.rules y ⟨0,0,(xs.getD k bI).rule⟩ else 0
def JY (p:an) (K:Int) (b:Bool) (m:Int) (xs:List bH) (k:Nat):Int:=if decide ((xs.getD k bI).process<K)=b/\m∈(ce p (xs.getD k bI)).send then 1 else 0
def CT:Bool->az->List Int
 |true,d=>d.sent
 |false,d=>d.faulty
theorem vC {p:an} {s:aJ} {c:az} {xs:List bH} (h:dx p s c) (hr:ct p s c xs) {k:Nat} (hk:k<=xs.length):((cY p c xs).getD k aU).correct=c.correct/\((cY p c xs).getD k aU).states.length=c.states.length:=by
 have hd:=jb h hr k hk
 have a:=hd.vc.cor
 have b:=h.vc.cor
 have a2:=hd.vc.len
 have b2:=h.vc.len
 exact⟨by omega,by omega⟩
theorem GC {p:an} {s:aJ} {c:az} {xs:List bH} (ht:dZ p) (h:dx p s c) (hr:ct p s c xs) (b:Bool) (y:Int):∀k,k<=xs.length->
  mc c.correct b y ((cY p c xs).getD k aU).states c.states.length=mc c.correct b y c.states c.states.length+di (NG p c.correct b y xs) k
 |0,_=>by rw[di];show mc c.correct b y c.states c.states.length=_;omega
 |k+1,hk=>by
  have ih:=GC ht h hr b y k (by omega)
  obtain⟨⟨⟨⟨r1,r2⟩,⟨q1,q2⟩⟩,hs,_,_⟩,_,hst⟩:=iJ h hr k (by omega)
  obtain⟨hcc,hll⟩:=vC h hr (k:=k) (by omega)
  rw[hst,di]
  generalize hd:(cY p c xs).getD k aU=d at*
  have hri:=ht.2.2 (xs.getD k bI).rule.toNat (by omega)
  have hmv:NG p c.correct b y xs k=if decide ((xs.getD k bI).process<c.correct)=b then(if(ce p (xs.getD k bI)).dst=y then 1 else 0)-(if(p.rules.getD (xs.getD k bI).rule.toNat ap).src=y then 1 else 0) else 0:=rfl
  rw[hmv]
  clear hmv
  generalize xs.getD k bI=x at*
  rw[l9 (show(ce p x).kind=1 from hri.1) ⟨q1,q2⟩]
  obtain⟨i0,e0⟩:∃i0:Nat,x.process=i0:=⟨x.process.toNat,by omega⟩
  have hi0:i0<d.states.length:=by omega
  have hu:=Bc (f:=fun i=>if decide ((i:Int)<c.correct)=b/\(d.states.set i0 (ce p x).dst).getD i 0=y then 1 else 0) (g:=fun i=>if decide ((i:Int)<c.correct)=b/\d.states.getD i 0=y then 1 else 0) (i0:=i0) (n:=c.states.length) (by omega)
   (fun i hi hne=>by rw[getD_set_ne _ (fun e=>hne e.symm)])
  rw[lF _ hi0] at hu
  rw[e0] at hs⊢
  rw[tN] at hs⊢
  rw[hs] at hu
  unfold mc at ih⊢
  rw[hu,ih]
  by_cases e1:decide ((i0:Int)<c.correct)=b
  ·simp only[e1,true_and,if_true]
   (repeat' split)<;>omega
  ·simp only[e1,false_and,if_false]
   (repeat' split)<;>omega
theorem tK {p:an} {r:bo} (h:gI p r) (hk:r.kind=1):r.send.Nodup:=by
 have a:=h.kin
 unfold cW at a
 rw[if_pos hk] at a
 have hz:=bB a (bC r.send p.messages.length) (by simp)
 exact(gr hz).imp fun{a b} (h:a<b)=>by omega
theorem zx {p:an} {s:aJ} {c:az} {xs:List bH} (ht:dZ p) (h:dx p s c) (hr:ct p s c xs) (b:Bool) (m:Nat) (h0:(CT b c).getD m 0=0):∀k,k<=xs.length->
  (CT b ((cY p c xs).getD k aU)).getD m 0=di (JY p c.correct b m xs) k
 |0,_=>h0
 |k+1,hk=>by
  have ih:=zx ht h hr b m h0 k (by omega)
  have hd:=jb h hr k (by omega)
  obtain⟨⟨⟨⟨r1,r2⟩,⟨q1,q2⟩⟩,hs,_,_⟩,_,hst⟩:=iJ h hr k (by omega)
  obtain⟨hcc,hll⟩:=vC h hr (k:=k) (by omega)
  rw[hst,di]
  generalize (cY p c xs).getD k aU=d at*
  have hri:=ht.2.2 (xs.getD k bI).rule.toNat (by omega)
  have hsn:JY p c.correct b m xs k=if decide ((xs.getD k bI).process<c.correct)=b/\(m:Int)∈(ce p (xs.getD k bI)).send then 1 else 0:=rfl
  rw[hsn]
  clear hsn
  have hR:=cQ h.val (i:=(xs.getD k bI).rule.toNat) (by omega)
  have hn:=tK hR hri.1
  have hse:=hR.send
  have e:=nY (ce p (xs.getD k bI)).send (CT b d) m hn (fun z hz=>by
   obtain⟨i,hi,e⟩:=List.getElem_of_mem hz
   have hr2:=hse i hi
   have hr3:0<=(ce p (xs.getD k bI)).send.getD i 0/\(ce p (xs.getD k bI)).send.getD i 0<p.messages.length:=hr2
   rw[av 0 hi,e] at hr3
   have a1:=hd.vc.snl
   have a2:=hd.vc.fal
   cases b<;>simp only[CT]<;>omega)
  generalize xs.getD k bI=x at*
  cases b
  ·show(if x.process<d.correct then d.faulty else bP d.faulty (ce p x).send).getD m 0=_
   by_cases hp:x.process<d.correct
   ·rw[if_pos hp,if_neg (fun hh=>by have:=hh.1;rw[hcc] at hp;simp[hp] at this)]
    show d.faulty.getD m 0=_
    rw[show d.faulty.getD m 0=_ from ih]
    omega
   ·rw[if_neg hp]
    rw[show(bP d.faulty (ce p x).send).getD m 0=_ from e]
    rw[show(CT false d).getD m 0=_ from ih]
    rw[hcc] at hp
    simp[hp]
  ·show(if x.process<d.correct then bP d.sent (ce p x).send else d.sent).getD m 0=_
   by_cases hp:x.process<d.correct
   ·rw[if_pos hp]
    rw[show(bP d.sent (ce p x).send).getD m 0=_ from e]
    rw[show(CT true d).getD m 0=_ from ih]
    rw[hcc] at hp
    simp[hp]
   ·rw[if_neg hp,if_neg (fun hh=>by have:=hh.1;rw[hcc] at hp;simp[hp] at this)]
    rw[show d.sent.getD m 0=_ from ih]
    omega
theorem vD {p:an} {s:aJ} {c:az} {xs:List bH} (h:dx p s c) (hr:ct p s c xs) {i k':Nat} (hi:i<(ax p.rules).length) (hu:jH p s ((cY p c xs).getD k' aU) i):∀k,k'<=k->k<=xs.length->jH p s ((cY p c xs).getD k aU) i
 |0,h1,_=>by
  obtain rfl:k'=0:=by omega
  exact hu
 |k+1,h1,h2=>by
  by_cases e:k'=k+1
  ·subst e;exact hu
  ·have ih:=vD h hr hi hu k (by omega) (by omega)
   obtain⟨_,_,hst⟩:=iJ h hr k (by omega)
   rw[hst]
   exact F4 h.val hi ih
structure dy (p:an) (q:aG) (s:aJ) (r:Rn) (sch seg:List Int):Prop where
 prp:aP p q=0
 thr:dZ p
 rdy:dx p s r.start
 run:ct p s r.start r.steps
 ini:CM p q s r.start
 len:r.steps.length<=48
 sta:r.start.states.length<=8
 scb:da (ax p.rules).length sch
 var:∀k,k<r.steps.length->lJ r.start r.steps seg k∈ak p q sch
 rng:∀k,k<r.steps.length->0<=seg.getD k 0/\seg.getD k 0<=sch.length
 mon:∀k,k+1<r.steps.length->seg.getD k 0<=seg.getD (k+1) 0
theorem r9.sg {p:an} {q:aG} {s:aJ} {r:Rn} (h:r9 p q s r):dy p q s r (d8 p s r).1 (d8 p s r).2:=by
 refine⟨h.prp,h.thr,h.rdy,h.run,h.ini,h.len,h.sta,h.sch,fun k hk=>xH h.thr h.rdy h.run hk,fun k hk=>?_,fun k hk=>?_⟩
 ·obtain⟨n,e1,e2,_⟩:=(ob p s (cY p r.start r.steps) [] []).new k (by rw[fM];omega)
  rw[List.length_nil,Nat.zero_add] at e1
  unfold d8
  rw[e1]
  exact⟨by omega,by omega⟩
 ·have:=(vB p s (cY p r.start r.steps) [] []).mono k (by rw[fM];omega)
  rw[List.length_nil,Nat.zero_add,Nat.zero_add] at this
  exact this
section
variable {p:an} {q:aG} {s:aJ} {r:Rn} {sch seg:List Int}
noncomputable abbrev fx (s:aJ) (r:Rn) (seg:List Int):Co:=ml s r.start r.steps seg r.start.states.length r.steps.length
noncomputable abbrev dl (p:an) (r:Rn) (k:Nat):az:=(cY p r.start r.steps).getD k aU
theorem vE (hk:dy p q s r sch seg) (c:Co):bk c (fx s r seg) (ak p q sch)=
  c ⟨0,0,0⟩*s.n+c ⟨1,0,0⟩*s.t+c ⟨2,0,0⟩*s.f+di (fun i=>c (fV r.start i)) r.start.states.length+di (fun k=>c (lJ r.start r.steps seg k)) r.steps.length:=
 L7 (bu hk.prp _) (by unfold ak;simp) (by unfold ak;simp) (by unfold ak;simp) (fun i hi=>tH hk.prp hk.thr hk.rdy hk.ini hi) (fun k hk2=>hk.var k hk2)
theorem vF (hk:dy p q s r sch seg) {k:Nat} (h:k<r.steps.length):0<=seg.getD k 0/\seg.getD k 0<=sch.length:=hk.rng k h
theorem GD (hk:dy p q s r sch seg) (J:Int):∃m,m<=r.steps.length/\∀k,k<r.steps.length->(seg.getD k 0<J↔k<m):=
 Be (f:=fun k=>seg.getD k 0) hk.mon
theorem jk (hk:dy p q s r sch seg) {start fire y:Int} {b:Bool} (hs:start=3/\fire=5/\b=true\/start=4/\fire=6/\b=false) {J m:Nat} (hm:m<=r.steps.length) (hc:∀k,k<r.steps.length->(seg.getD k 0<((J:Nat):Int)↔k<m)):
  bk (cn p.rules start fire y J 0) (fx s r seg) (ak p q sch)=mc r.start.correct b y (dl p r m).states r.start.states.length:=by
 rw[vE hk,GC hk.thr hk.rdy hk.run b y m hm]
 have e0:∀k:Int,k<3->cn p.rules start fire y J 0 ⟨k,0,0⟩=0:=fun k h3=>by
  unfold cn
  rw[if_neg (fun e=>by have:=congrArg Vb.kind e;dsimp only at this;omega),if_neg (fun e=>by have:=e.1;dsimp only at this;omega)]
  rfl
 rw[e0 0 (by decide),e0 1 (by decide),e0 2 (by decide)]
 have e1:di (fun i=>cn p.rules start fire y J 0 (fV r.start i)) r.start.states.length=mc r.start.correct b y r.start.states r.start.states.length:=by
  unfold mc
  refine cK fun i hi=>?_
  unfold cn fV
  have hf:¬fJ p.rules.length fire J 0 ⟨if(i:Int)<r.start.correct then 3 else 4,0,r.start.states.getD i 0⟩:=fun e=>by
   have:=e.1
   dsimp only at this
   split at this<;>omega
  rw[if_neg hf,Int.add_zero]
  by_cases hp:(i:Int)<r.start.correct
  ·rw[if_pos hp]
   rcases hs with ⟨rfl,rfl,rfl⟩|⟨rfl,rfl,rfl⟩
   ·simp[hp]
   ·simp[hp]
  ·rw[if_neg hp]
   rcases hs with ⟨rfl,rfl,rfl⟩|⟨rfl,rfl,rfl⟩
   ·simp[hp]
   ·simp[hp]
 have e2:di (fun k=>cn p.rules start fire y J 0 (lJ r.start r.steps seg k)) r.steps.length=di (NG p r.start.correct b y r.steps) m:=by
  rw[<-vw hm]
  refine cK fun k h2=>?_
  have hn:=vF hk (k:=k) (by omega)
  have hck:=hc k h2
  obtain⟨⟨⟨⟨r1,r2⟩,_⟩,_⟩,_,_⟩:=iJ hk.rdy hk.run k h2
  unfold cn
  rw[if_neg (fun e=>by have:=congrArg Vb.kind e;unfold lJ at this;dsimp only at this;split at this<;>omega),Int.zero_add]
  unfold NG
  have hf:fJ p.rules.length fire J 0 (lJ r.start r.steps seg k)↔k<m/\decide ((r.steps.getD k bI).process<r.start.correct)=b:=by
   unfold fJ lJ
   dsimp only
   rw[<-hck]
   by_cases hp:(r.steps.getD k bI).process<r.start.correct
   ·rw[if_pos hp]
    rcases hs with ⟨rfl,rfl,rfl⟩|⟨rfl,rfl,rfl⟩
    ·simp only[hp,decide_true,and_true,true_and];omega
    ·simp only[hp,decide_true];constructor
     ·intro x;omega
     ·intro x;simp at x
   ·rw[if_neg hp]
    rcases hs with ⟨rfl,rfl,rfl⟩|⟨rfl,rfl,rfl⟩
    ·simp only[hp,decide_false];constructor
     ·intro x;omega
     ·intro x;simp at x
    ·simp only[hp,decide_false,and_true,true_and];omega
  by_cases h1:k<m
  ·rw[if_pos h1]
   by_cases h3:decide ((r.steps.getD k bI).process<r.start.correct)=b
   ·rw[if_pos (hf.2 ⟨h1,h3⟩),if_pos h3];rfl
   ·rw[if_neg (fun h=>h3 (hf.1 h).2),if_neg h3]
  ·rw[if_neg h1,if_neg (fun h=>h1 (hf.1 h).1)]
 rw[e1,e2]
 omega
theorem xJ (hk:dy p q s r sch seg) (b:Bool) (m:Nat):(CT b r.start).getD m 0=0:=by
 have a:=hk.rdy.vc.snl
 have a2:=hk.rdy.vc.fal
 by_cases hm:m<r.start.sent.length
 ·have:=hk.ini.2.2.1 m hm
  cases b
  ·exact this.2
  ·exact this.1
 ·cases b
  ·show r.start.faulty.getD m 0=0
   rw[gD,List.getElem?_eq_none (by omega)];rfl
  ·show r.start.sent.getD m 0=0
   rw[gD,List.getElem?_eq_none (by omega)];rfl
theorem gT (hk:dy p q s r sch seg) {fire msg:Int} {b:Bool} (hs:fire=5/\b=true\/fire=6/\b=false) (hg:0<=msg) {J m:Nat} (hm:m<=r.steps.length) (hc:∀k,k<r.steps.length->(seg.getD k 0<((J:Nat):Int)↔k<m)):
  bk (bT p.rules fire msg J 0) (fx s r seg) (ak p q sch)=(CT b (dl p r m)).getD msg.toNat 0:=by
 rw[vE hk,zx hk.thr hk.rdy hk.run b msg.toNat (xJ hk b _) m hm]
 have e0:∀v:Vb,v.kind<5->bT p.rules fire msg J 0 v=0:=fun v h3=>by
  unfold bT
  rw[if_neg (fun e=>by have:=e.1.1;omega)]
 rw[e0 _ (by decide),e0 _ (by decide),e0 _ (by decide)]
 have e1:di (fun i=>bT p.rules fire msg J 0 (fV r.start i)) r.start.states.length=0:=gN fun i _=>e0 _ (by unfold fV;dsimp only;split<;>omega)
 have e2:di (fun k=>bT p.rules fire msg J 0 (lJ r.start r.steps seg k)) r.steps.length=di (JY p r.start.correct b (msg.toNat:Nat) r.steps) m:=by
  rw[<-vw hm]
  refine cK fun k h2=>?_
  have hn:=vF hk (k:=k) (by omega)
  have hck:=hc k h2
  obtain⟨⟨⟨⟨r1,r2⟩,_⟩,_⟩,_,_⟩:=iJ hk.rdy hk.run k h2
  have hf:fJ p.rules.length fire J 0 (lJ r.start r.steps seg k)↔k<m/\decide ((r.steps.getD k bI).process<r.start.correct)=b:=by
   unfold fJ lJ
   dsimp only
   rw[<-hck]
   by_cases hp:(r.steps.getD k bI).process<r.start.correct
   ·rw[if_pos hp]
    rcases hs with ⟨rfl,rfl⟩|⟨rfl,rfl⟩
    ·simp only[hp,decide_true,and_true,true_and];omega
    ·simp only[hp,decide_true];constructor
     ·intro x;omega
     ·intro x;simp at x
   ·rw[if_neg hp]
    rcases hs with ⟨rfl,rfl⟩|⟨rfl,rfl⟩
    ·simp only[hp,decide_false];constructor
     ·intro x;omega
     ·intro x;simp at x
    ·simp only[hp,decide_false,and_true,true_and];omega
  unfold bT JY
  rw[Int.toNat_of_nonneg hg]
  have hi:(lJ r.start r.steps seg k).idx.toNat=(r.steps.getD k bI).rule.toNat:=rfl
  rw[hi]
  show(if fJ p.rules.length fire J 0 (lJ r.start r.steps seg k)/\msg∈(ce p (r.steps.getD k bI)).send then(1:Int) else 0)=_
  by_cases h1:k<m
  ·rw[if_pos h1]
   by_cases h3:decide ((r.steps.getD k bI).process<r.start.correct)=b/\msg∈(ce p (r.steps.getD k bI)).send
   ·rw[if_pos ⟨hf.2 ⟨h1,h3.1⟩,h3.2⟩,if_pos h3]
   ·rw[if_neg (fun h=>h3 ⟨(hf.1 h.1).2,h.2⟩),if_neg h3]
  ·rw[if_neg h1,if_neg (fun h=>h1 (hf.1 h.1).1)]
 rw[e1,e2]
 omega
theorem Bg (K:Int) (hK:0<=K):∀n:Nat,di (fun i=>if decide ((i:Int)<K)=true then 1 else 0) n=if(n:Int)<=K then(n:Int) else K
 |0=>by rw[di,if_pos (by omega)];rfl
 |n+1=>by
  rw[di,Bg K hK n]
  by_cases h:(n:Int)<K
  ·rw[if_pos (by omega),if_pos (by simpa using h),if_pos (by omega)];omega
  ·by_cases h2:(n:Int)<=K
   ·rw[if_pos h2,if_neg (by simpa using h),if_neg (by omega)];omega
   ·rw[if_neg h2,if_neg (by simpa using h),if_neg (by omega)];omega
theorem I7 (K:Int) (n:Nat):di (fun i=>if decide ((i:Int)<K)=true then 1 else 0) n+di (fun i=>if decide ((i:Int)<K)=false then 1 else 0) n=n:=by
 rw[<-Bd,<-vy n]
 refine cK fun i _=>?_
 by_cases h:(i:Int)<K<;>simp[h]
theorem Nt (hk:dy p q s r sch seg) {kind:Int} {b:Bool} (hs:kind=3/\b=true\/kind=4/\b=false):bk (oZ kind p.states.length) (fx s r seg) (ak p q sch)=di (fun i=>if decide ((i:Int)<r.start.correct)=b then 1 else 0) r.start.states.length:=by
 rw[vE hk]
 have e0:∀v:Vb,v.kind≠kind->oZ kind p.states.length v=0:=fun v h3=>by
  unfold oZ
  rw[if_neg (fun e=>h3 e.1)]
 rw[e0 _ (by dsimp only;omega),e0 _ (by dsimp only;omega),e0 _ (by dsimp only;omega),gN (f:=fun k=>oZ kind p.states.length (lJ r.start r.steps seg k)) fun k _=>e0 _ (by unfold lJ;dsimp only;split<;>omega)]
 have e1:di (fun i=>oZ kind p.states.length (fV r.start i)) r.start.states.length=di (fun i=>if decide ((i:Int)<r.start.correct)=b then 1 else 0) r.start.states.length:=by
  refine cK fun i hi=>?_
  have:=hk.rdy.vc.sta i hi
  unfold oZ fV
  dsimp only
  by_cases hp:(i:Int)<r.start.correct
  ·rw[if_pos hp]
   rcases hs with ⟨rfl,rfl⟩|⟨rfl,rfl⟩
   ·rw[if_pos ⟨rfl,rfl,this.1,this.2⟩,if_pos (by simpa using hp)]
   ·rw[if_neg (by omega),if_neg (by simpa using hp)]
  ·rw[if_neg hp]
   rcases hs with ⟨rfl,rfl⟩|⟨rfl,rfl⟩
   ·rw[if_neg (by omega),if_neg (by simpa using hp)]
   ·rw[if_pos ⟨rfl,rfl,this.1,this.2⟩,if_pos (by simpa using hp)]
 rw[e1]
 omega
end
end Go.Proofs.YtekmminpfhacpaaGreatDoor
namespace Go.Proofs.YtekmminpfhacpaaGreatDoor
set_option maxRecDepth 100000
set_option maxHeartbeats 4000000
theorem Bh {a:Co} {v0:Vb}:∀{l:List Vb},l.Nodup->v0∈l->bk (fun v=>if v=v0 then 1 else 0) a l=a v0
 |[],_,h=>by cases h
 |v::l,hn,h=>by
  obtain⟨hv,hn⟩:=List.nodup_cons.1 hn
  rw[bk]
  by_cases e:v=v0
  ·subst e
   rw[if_pos rfl,dN fun x hx=>if_neg fun(e2:x=v)=>hv (e2▸hx)]
   omega
  ·rcases List.mem_cons.1 h with h|h
   ·exact absurd h.symm e
   ·rw[if_neg e,Bh hn h];omega
theorem xK {c a:Co} {v0:Vb} {k:Int} {l:List Vb} (hn:l.Nodup) (h:v0∈l):bk (cR c v0 k) a l=bk c a l+k*a v0:=by
 have e:cR c v0 k=cl c k (fun v=>if v=v0 then 1 else 0):=by
  funext v
  unfold cR cl
  by_cases e:v=v0<;>simp[e]
 rw[e,bj,Bh hn h]
theorem iL (a:Co) (l:List Vb):bk zC a l=0:=dN fun _ _=>rfl
section
variable {p:an} {q:aG} {s:aJ} {r:Rn} {sch seg:List Int}
theorem Nu (s:aJ) (r:Rn) (seg:List Int):fx s r seg ⟨0,0,0⟩=s.n:=by
 rw[fx,qo (by decide)];simp[pL]
theorem Nv (s:aJ) (r:Rn) (seg:List Int):fx s r seg ⟨1,0,0⟩=s.t:=by
 rw[fx,qo (by decide)];simp[pL]
theorem I8 (s:aJ) (r:Rn) (seg:List Int):fx s r seg ⟨2,0,0⟩=s.f:=by
 rw[fx,qo (by decide)];simp[pL]
theorem jl (l:kG):bk (fT l) (fx s r seg) (ak p q sch)=l.n*s.n+l.t*s.t+l.f*s.f:=by
 rw[zp,Nu,Nv,I8]
theorem I9 (hk:dy p q s r sch seg):∀l∈iT p,0<=(o0 l).2+bk (o0 l).1 (fx s r seg) (ak p q sch):=by
 intro l hl
 obtain⟨⟨a1,a2,a3⟩,a4,_,a5⟩:=hk.rdy.adm
 unfold o0
 dsimp only
 rw[jl]
 unfold iT at hl
 rcases List.mem_append.1 hl with hl|hl
 ·rcases List.mem_append.1 hl with hl|hl
  ·simp only[List.mem_cons,List.not_mem_nil,or_false] at hl
   rcases hl with rfl|rfl|rfl<;>dsimp only<;>omega
  ·split at hl
   ·rename_i h0
    unfold w7 at a4
    simp only[List.mem_cons,List.not_mem_nil,or_false] at hl
    rcases hl with rfl|rfl<;>dsimp only<;>omega
   ·simp at hl
 ·obtain⟨i,hi,e⟩:=List.getElem_of_mem hl
  have:=a5 i hi
  rw[av fQ hi,e] at this
  unfold fX at this
  omega
theorem lK (hk:dy p q s r sch seg):0<=r.start.correct/\r.start.correct=s.n-s.f/\r.start.correct<=r.start.states.length/\(jC p->(r.start.states.length:Int)=s.n):=by
 have a:=hk.rdy.vc.cor
 have b:=hk.rdy.vc.len
 have c:=hk.rdy.sz
 unfold gk at b
 unfold jC
 split at b<;>omega
theorem I' (hk:dy p q s r sch seg):∀w∈jE p,0<=w.2+bk w.1 (fx s r seg) (ak p q sch):=by
 intro w hw
 obtain⟨c0,c1,c2,c3⟩:=lK hk
 have l1:=Bg r.start.correct c0 r.start.states.length
 have l2:=I7 r.start.correct r.start.states.length
 have key:∀(kind:Int) (b:Bool) (k:Int) (l:kG),(kind=3/\b=true\/kind=4/\b=false)->l.c=0->di (fun i=>if decide ((i:Int)<r.start.correct)=b then 1 else 0) r.start.states.length=l.n*s.n+l.t*s.t+l.f*s.f->
   0<=(eM kind p.states.length k l).2+bk (eM kind p.states.length k l).1 (fx s r seg) (ak p q sch):=by
  intro kind b k l h1 h2 h3
  unfold eM
  dsimp only
  rw[bj,bj,iL,Nt hk h1,jl,h2,h3,Int.neg_mul,Int.neg_mul]
  omega
 have e3:di (fun i=>if decide ((i:Int)<r.start.correct)=true then 1 else 0) r.start.states.length=r.start.correct:=by
  rw[l1];split<;>omega
 unfold jE at hw
 rcases List.mem_append.1 hw with hw|hw
 ·simp only[List.mem_cons,List.not_mem_nil,or_false] at hw
  rcases hw with rfl|rfl
  ·exact key 3 true 1 _ (.inl ⟨rfl,rfl⟩) rfl (by rw[e3];dsimp only;omega)
  ·exact key 3 true (-1) _ (.inl ⟨rfl,rfl⟩) rfl (by rw[e3];dsimp only;omega)
 ·split at hw
  ·rename_i hwh
   have:=c3 hwh
   simp only[List.mem_cons,List.not_mem_nil,or_false] at hw
   rcases hw with rfl|rfl
   ·exact key 4 false 1 _ (.inr ⟨rfl,rfl⟩) rfl (by dsimp only;omega)
   ·exact key 4 false (-1) _ (.inr ⟨rfl,rfl⟩) rfl (by dsimp only;omega)
  ·simp at hw
theorem mQ (hk:dy p q s r sch seg) {m:Nat} (hm:m<=r.steps.length):dx p s (dl p r m):=jb hk.rdy hk.run m hm
theorem xL (hk:dy p q s r sch seg) {m:Nat} (hm:m<=r.steps.length) (hf:¬jC p) (j:Nat):(dl p r m).faulty.getD j 0=0:=by
 have h:=(mQ hk hm).vc.fau
 have e:yM p=0:=by unfold yM;exact if_neg hf
 rw[e] at h
 by_cases hj:j<(dl p r m).faulty.length
 ·have:=h j hj;omega
 ·rw[gD,List.getElem?_eq_none (by omega)];rfl
def GE (p:an) (s:aJ) (r:Rn) (sch seg:List Int):Prop:=∀j m:Nat,0<j->j<=sch.length->m<=r.steps.length->(∀k,k<r.steps.length->(seg.getD k 0<(j:Int)↔k<m))->∃i:Nat,i<(ax p.rules).length/\sch.getD (j-1) 0=i/\jH p s (dl p r m) i
theorem r9.gu (hk:r9 p q s r):GE p s r (d8 p s r).1 (d8 p s r).2:=by
 intro j m h0 hj hm hc
 have hG:=vB p s (cY p r.start r.steps) [] []
 have hlen:=fM p r.start r.steps
 have hsm:(j:Int)<=(d8 p s r).2.getD m 0:=by
  by_cases e:m<r.steps.length
  ·have:=hc m e
   omega
  ·obtain rfl:m=r.steps.length:=by omega
   have:=hG.last (by omega)
   rw[hlen,List.length_nil,Nat.zero_add,Nat.add_sub_cancel] at this
   unfold d8 at hj⊢
   omega
 obtain⟨k',a,b⟩:=hG.src m (by omega) (j-1) (Nat.zero_le _) (by
  rw[List.length_nil,Nat.zero_add]
  unfold d8 at hsm
  omega)
 obtain⟨i,hi,e,hb⟩:=(lD p s _).1 b
 exact⟨i,hi,e,vD hk.rdy hk.run hi hb m a hm⟩
theorem Ja (hk:dy p q s r sch seg) (hg:GE p s r sch seg) {j:Nat} (h0:0<j) (hj:j<=sch.length):
  0<=(km p ((ax p.rules).getD (sch.getD (j-1) 0).toNat aC) j).2+bk (km p ((ax p.rules).getD (sch.getD (j-1) 0).toNat aC) j).1 (fx s r seg) (ak p q sch):=by
 obtain⟨m,hm,hc⟩:=GD hk (j:Int)
 have hu:=hg j m h0 hj hm hc
 obtain⟨i,hi,e,hb⟩:=hu
 rw[e,tN]
 have hT:=o9 hk.rdy.val (aB aC hi)
 unfold jH at hb
 generalize (ax p.rules).getD i aC=g at*
 have e5:=gT hk (fire:=5) (b:=true) (.inl ⟨rfl,rfl⟩) hT.1.1 hm hc
 have e6:=gT hk (fire:=6) (b:=false) (.inr ⟨rfl,rfl⟩) hT.1.1 hm hc
 have hn:lC p s (dl p r m) g.message=(dl p r m).sent.getD g.message.toNat 0+(dl p r m).faulty.getD g.message.toNat 0+(if p.fault=3 then s.f else 0):=by
  unfold lC
  by_cases hw:p.fault=1\/p.fault=2
  ·rw[if_pos hw,if_neg (by omega)];omega
  ·rw[if_neg hw,xL hk hm hw];omega
 rw[hn] at hb
 have hnd:=bu hk.prp sch
 have h2m:(⟨2,0,0⟩:Vb)∈ak p q sch:=by unfold ak;simp
 unfold fX at hb
 rw[Int.mul_add,Int.mul_add] at hb
 have f5:bk (bT p.rules 5 g.message j 0) (fx s r seg) (ak p q sch)=(dl p r m).sent.getD g.message.toNat 0:=e5
 have f6:bk (bT p.rules 6 g.message j 0) (fx s r seg) (ak p q sch)=(dl p r m).faulty.getD g.message.toNat 0:=e6
 unfold km
 dsimp only
 by_cases h3:p.fault=3
 ·rw[if_pos h3] at hb⊢
  rw[bj,xK hnd h2m,bj,bj,iL,f5,f6,jl,I8]
  omega
 ·rw[if_neg h3] at hb⊢
  rw[bj,bj,bj,iL,f5,f6,jl]
  omega
theorem Bi (hk:dy p q s r sch seg) {start fire y:Int} {j:Nat} (hs:start=3/\fire=5\/start=4/\fire=6) (x:Nat):0<=(nD p start fire x j).2+bk (nD p start fire x j).1 (fx s r seg) (ak p q sch):=by
 obtain⟨m,hm,hc⟩:=GD hk ((j+1:Nat):Int)
 unfold nD
 dsimp only
 rw[bj,iL]
 rcases hs with ⟨rfl,rfl⟩|⟨rfl,rfl⟩
 ·rw[jk hk (b:=true) (.inl ⟨rfl,rfl,rfl⟩) hm hc]
  have:=Bf r.start.correct true x (dl p r m).states r.start.states.length
  omega
 ·rw[jk hk (b:=false) (.inr ⟨rfl,rfl,rfl⟩) hm hc]
  have:=Bf r.start.correct false x (dl p r m).states r.start.states.length
  omega
theorem xM (hk:dy p q s r sch seg) (hg:GE p s r sch seg):∀w∈fg p q sch (-1),0<=w.2+bk w.1 (fx s r seg) (ak p q sch):=by
 intro w hw
 unfold fg at hw
 rw[if_neg (by omega),List.append_nil] at hw
 rcases List.mem_append.1 hw with hw|hw
 ·rcases List.mem_append.1 hw with hw|hw
  ·obtain⟨l,hl,rfl⟩:=List.mem_map.1 hw
   exact I9 hk l hl
  ·exact I' hk w hw
 ·obtain⟨j,hj,hw⟩:=List.mem_flatMap.1 hw
  have hj:=List.mem_range.1 hj
  unfold ko at hw
  rcases List.mem_append.1 hw with hw|hw
  ·rcases List.mem_append.1 hw with hw|hw
   ·split at hw
    ·rename_i h0
     rw[List.mem_singleton] at hw
     subst hw
     exact Ja hk hg h0 (by omega)
    ·simp at hw
   ·obtain⟨x,_,rfl⟩:=List.mem_map.1 hw
    exact Bi hk (y:=0) (.inl ⟨rfl,rfl⟩) x
  ·split at hw
   ·obtain⟨x,_,rfl⟩:=List.mem_map.1 hw
    exact Bi hk (y:=0) (.inr ⟨rfl,rfl⟩) x
   ·simp at hw
theorem Jb (hk:dy p q s r sch seg) (hg:GE p s r sch seg) {number:Int} (h:0<=number->∀w∈gS p q sch.length number.toNat,0<=w.2+bk w.1 (fx s r seg) (ak p q sch)):∀w∈fg p q sch number,0<=w.2+bk w.1 (fx s r seg) (ak p q sch):=by
 intro w hw
 by_cases hn:0<=number
 ·unfold fg at hw
  rw[if_pos hn] at hw
  rcases List.mem_append.1 hw with hw|hw
  ·refine xM hk hg w ?_
   unfold fg
   rw[if_neg (by omega),List.append_nil]
   exact hw
  ·exact h hn w hw
 ·refine xM hk hg w ?_
  unfold fg at hw⊢
  rw[if_neg hn] at hw
  rw[if_neg (by omega)]
  exact hw
theorem Ot (hk:dy p q s r sch seg) (v:Vb):0<=fx s r seg v/\fx s r seg v<=1048576:=by
 have a:=hk.rdy.sz
 have a2:=hk.rdy.adm.1
 unfold rg at a2
 have b:=LY r.start v r.start.states.length
 have c:=LZ r.start r.steps seg v r.steps.length
 have d:=hk.len
 have e:=hk.sta
 have f:0<=pL s v/\pL s v<=8:=by
  unfold pL
  (repeat' split)<;>omega
 unfold fx ml
 omega
theorem oc (hk:dy p q s r sch seg) (hg:GE p s r sch seg) {number:Int} (h:0<=number->∀w∈gS p q sch.length number.toNat,0<=w.2+bk w.1 (fx s r seg) (ak p q sch)):o8 (kq p q sch number) ((ak p q sch).map (fx s r seg)):=
 (y5 hk.prp hk.scb).2 ⟨fun v _=>Ot hk v,Jb hk hg h⟩
def oS (K:Int) (l:List Int) (n:Nat):List Int->Int
 |[]=>0
 |x::xs=>mc K true x l n+oS K l n xs
theorem sb {f:Nat->Int} {i:Nat}:∀{n:Nat},i<n->(∀k,k<n->0<=f k)->f i<=di f n
 |0,h,_=>by omega
 |n+1,h,h0=>by
  rw[di]
  have b:=h0 n (by omega)
  by_cases e:i=n
  ·subst e
   have:=vv (f:=f) (n:=i) fun k hk=>h0 k (by omega)
   omega
  ·have:=sb (f:=f) (i:=i) (n:=n) (by omega) fun k hk=>h0 k (by omega)
   omega
theorem JZ (K:Int) (l:List Int) (n:Nat):∀xs,0<=oS K l n xs
 |[]=>Int.le_refl _
 |x::xs=>by
  have a:=Bf K true x l n
  have b:=JZ K l n xs
  rw[oS];omega
theorem GF {K:Int} {l:List Int} {n:Nat} {x:Int}:∀{xs:List Int},x∈xs->mc K true x l n<=oS K l n xs
 |y::xs,h=>by
  rw[oS]
  rcases List.mem_cons.1 h with rfl|h
  ·have:=JZ K l n xs;omega
  ·have a:=GF (K:=K) (l:=l) (n:=n) h
   have b:=Bf K true y l n
   omega
theorem xN {x:Int} {xs:List Int} (h:x∉xs):∀L:List Int,ki (x::xs) L=L.count x+ki xs L
 |[]=>rfl
 |y::L=>by
  have ih:=xN h L
  unfold ki at ih⊢
  rw[List.countP_cons,List.countP_cons,List.count_cons,ih]
  by_cases e:y=x
  ·subst e
   simp[h]
   omega
  ·simp[e]
   omega
theorem od {K:Int} (hK:0<=K) (y:Int) {l:List Int}:∀n:Nat,n<=l.length->mc K true y l n=((l.take (min n K.toNat)).count y:Int)
 |0,_=>by simp[mc,di]
 |n+1,hn=>by
  have ih:=od hK y (l:=l) n (by omega)
  unfold mc at ih⊢
  rw[di,ih]
  by_cases h:(n:Int)<K
  ·have e1:min n K.toNat=n:=by omega
   have e2:min (n+1) K.toNat=n+1:=by omega
   have hd:decide ((n:Int)<K)=true:=by simpa using h
   rw[e1,e2,List.take_succ_eq_append_getElem (by omega),List.count_append,List.count_singleton]
   simp only[hd,true_and]
   rw[av 0 (by omega)]
   by_cases e:l[n]=y
   ·simp[e]
   ·simp[e]
  ·have e1:min n K.toNat=K.toNat:=by omega
   have e2:min (n+1) K.toNat=K.toNat:=by omega
   have hd:decide ((n:Int)<K)=false:=by simpa using h
   rw[e1,e2,if_neg (fun hh=>by rw[hd] at hh;simp at hh)]
   omega
theorem zy {K:Int} (hK:0<=K) {l:List Int} (hl:K.toNat<=l.length):∀{xs:List Int},xs.Nodup->oS K l l.length xs=(ki xs (l.take K.toNat):Int)
 |[],_=>by
  unfold ki
  simp[oS]
 |x::xs,h=>by
  obtain⟨h1,h2⟩:=List.nodup_cons.1 h
  rw[oS,zy hK hl h2,xN h1,od hK x _ (Nat.le_refl _),Nat.min_eq_right hl]
  omega
theorem dj (hk:dy p q s r sch seg):∀k,k<r.steps.length->(seg.getD k 0<((sch.length+1:Nat):Int)↔k<r.steps.length):=fun k h=>by
 have:=vF hk (k:=k) (by omega)
 exact⟨fun _=>h,fun _=>by omega⟩
theorem zB (hk:dy p q s r sch seg):∀(xs:List Int) (c:Co),bk (xs.foldl (fun c x=>cl c 1 (cn p.rules 3 5 x (sch.length+1) 0)) c) (fx s r seg) (ak p q sch)=
  bk c (fx s r seg) (ak p q sch)+oS r.start.correct (dl p r r.steps.length).states r.start.states.length xs
 |[],c=>by rw[oS];show bk c _ _=_;omega
 |x::xs,c=>by
  rw[List.foldl_cons,zB hk xs,bj,jk hk (b:=true) (.inl ⟨rfl,rfl,rfl⟩) (Nat.le_refl _) (dj hk),oS]
  omega
theorem Bj (hk:dy p q s r sch seg) {xs:List Int} {least:Int} (h:least<=oS r.start.correct (dl p r r.steps.length).states r.start.states.length xs):0<=(lu p sch.length xs least).2+bk (lu p sch.length xs least).1 (fx s r seg) (ak p q sch):=by
 unfold lu
 dsimp only
 rw[zB hk,iL]
 omega
theorem mR (hk:dy p q s r sch seg):(dl p r r.steps.length).correct=r.start.correct/\(dl p r r.steps.length).states.length=r.start.states.length:=vC hk.rdy hk.run (Nat.le_refl _)
theorem GG (hk:dy p q s r sch seg) (hq:q.kind=1) (hb:yR p q (dl p r r.steps.length)) (number:Nat):∀w∈gS p q sch.length number,0<=w.2+bk w.1 (fx s r seg) (ak p q sch):=by
 intro w hw
 obtain⟨c0,c1,c2,_⟩:=lK hk
 obtain⟨e1,e2⟩:=mR hk
 unfold gS at hw
 rw[if_pos hq] at hw
 obtain⟨c,hc,rfl⟩:=List.mem_map.1 hw
 obtain⟨i,hi,e⟩:=List.getElem_of_mem hc
 have h:=hb.1 i hi
 have hp:=jB (aF hk.prp) hq hi
 rw[av br hi,e] at h hp
 refine Bj hk ?_
 have hn:c.states.Nodup:=(gr hp.1).imp fun{a b} (h:a<b)=>by omega
 rw[<-e2,zy c0 (by omega) hn,<-e1]
 exact h
def Hb (rs:List bo) (w:Nat->Nat):Nat->Nat
 |0=>0
 |k+1=>Hb rs w k*(1+(rs.getD k ap).guards.length)+w k
theorem GH {rs:List bo} {w:Nat->Nat} (hw:∀k,k<rs.length->w k<=(rs.getD k ap).guards.length):∀k,k<=rs.length->Hb rs w k<p7 rs k
 |0,_=>by show 0<1;omega
 |k+1,hk=>by
  have a:=GH hw k (by omega)
  have b:=hw k (by omega)
  rw[Hb,p7]
  have c:(Hb rs w k+1)*(1+(rs.getD k ap).guards.length)<=p7 rs k*(1+(rs.getD k ap).guards.length):=Nat.mul_le_mul_right _ a
  rw[Nat.add_mul,Nat.one_mul] at c
  omega
theorem Bk {rs:List bo} {w:Nat->Nat} (hw:∀k,k<rs.length->w k<=(rs.getD k ap).guards.length):∀m,m<=rs.length->Ao rs (Hb rs w rs.length) m=Hb rs w (rs.length-m)
 |0,_=>rfl
 |m+1,hm=>by
  rw[Ao,Bk hw m (by omega)]
  obtain⟨k,hk⟩:∃k,rs.length-m=k+1:=⟨rs.length-m-1,by omega⟩
  have e1:rs.length-1-m=k:=by omega
  have e2:rs.length-(m+1)=k:=by omega
  have b:=hw k (by omega)
  rw[hk,e1,e2,Hb,Nat.mul_comm,Nat.mul_add_div (by omega),Nat.div_eq_of_lt (by omega),Nat.add_zero]
theorem Jc {rs:List bo} {w:Nat->Nat} (hw:∀k,k<rs.length->w k<=(rs.getD k ap).guards.length) {i:Nat} (hi:i<rs.length):xZ rs (Hb rs w rs.length) i=w i:=by
 have b:=hw i hi
 unfold xZ
 rw[Bk hw _ (by omega),show rs.length-(rs.length-1-i)=i+1 by omega,Hb,Nat.mul_comm,Nat.mul_add_mod,Nat.mod_eq_of_lt (by omega)]
theorem CU (hk:dy p q s r sch seg) (hq:q.kind=2) (hn:¬kJ q (dl p r r.steps.length)) (hs:∀i j:Nat,i<p.rules.length->(j:Int)<s.n-s.f->¬JT p s (dl p r r.steps.length) (i:Int) (j:Int)):
  ∃number,number<oX p q/\∀w∈gS p q sch.length number,0<=w.2+bk w.1 (fx s r seg) (ak p q sch):=by
 obtain⟨c0,c1,c2,_⟩:=lK hk
 obtain⟨e1,e2⟩:=mR hk
 have hd:=mQ hk (Nat.le_refl _)
 have hchoice:∀i:Nat,∃w:Nat,i<p.rules.length->(w<=(p.rules.getD i ap).guards.length/\((w=0/\mc r.start.correct true (p.rules.getD i ap).src (dl p r r.steps.length).states r.start.states.length=0)\/
   ∃j,w=j+1/\j<(p.rules.getD i ap).guards.length/\¬nv p s (dl p r r.steps.length) true ((p.rules.getD i ap).guards.getD j aC))):=by
  intro i
  by_cases hi:i<p.rules.length
  ·by_cases h0:mc r.start.correct true (p.rules.getD i ap).src (dl p r r.steps.length).states r.start.states.length=0
   ·exact⟨0,fun _=>⟨Nat.zero_le _, .inl ⟨rfl,h0⟩⟩⟩
   ·have hex:∃j:Nat,j<r.start.states.length/\(j:Int)<r.start.correct/\(dl p r r.steps.length).states.getD j 0=(p.rules.getD i ap).src:=by
     refine Classical.byContradiction fun hno=>h0 (gN fun j hj=>?_)
     rw[if_neg]
     rintro⟨a,b⟩
     exact hno ⟨j,hj,by simpa using a,b⟩
    obtain⟨j,hj,hjc,hjs⟩:=hex
    have hnf:=hs i j hi (by omega)
    have hR:=cQ hk.rdy.val hi
    have hrd:=hR.read
    have hv:=hk.thr.2.1
    obtain⟨k1,k2,k3,k4⟩:=hk.thr.2.2 i hi
    have hng:¬nw p s (dl p r r.steps.length) (p.rules.getD i ap) true:=fun hg=>by
     refine hnf ⟨by omega,0,Nat.zero_le _,⟨⟨by dsimp only;omega,by dsimp only;omega⟩,?_⟩⟩
     dsimp only
     rw[tN]
     refine⟨by dsimp only;rw[tN];exact hjs, .inl (by omega),?_⟩
     unfold uE
     rw[if_neg (by omega),if_pos k1]
     exact⟨rfl,hg, .inl k3, .inl k4⟩
    have hex2:∃g,g<(p.rules.getD i ap).guards.length/\¬nv p s (dl p r r.steps.length) true ((p.rules.getD i ap).guards.getD g aC):=
     Classical.byContradiction fun hno=>hng fun g hg=>Classical.byContradiction fun h=>hno ⟨g,hg,h⟩
    obtain⟨g,hg,hga⟩:=hex2
    exact⟨g+1,fun _=>⟨hg, .inr ⟨g,rfl,hg,hga⟩⟩⟩
  ·exact⟨0,fun h=>absurd h hi⟩
 obtain⟨w,hw⟩:∃w:Nat->Nat,∀i,i<p.rules.length->(w i<=(p.rules.getD i ap).guards.length/\((w i=0/\mc r.start.correct true (p.rules.getD i ap).src (dl p r r.steps.length).states r.start.states.length=0)\/
   ∃j,w i=j+1/\j<(p.rules.getD i ap).guards.length/\¬nv p s (dl p r r.steps.length) true ((p.rules.getD i ap).guards.getD j aC))):=
  ⟨fun i=>Classical.choose (hchoice i),fun i hi=>Classical.choose_spec (hchoice i) hi⟩
 have hwl:∀i,i<p.rules.length->w i<=(p.rules.getD i ap).guards.length:=fun i hi=>(hw i hi).1
 refine⟨Hb p.rules w p.rules.length,?_,fun v hv=>?_⟩
 ·unfold oX
  rw[if_pos hq]
  exact GH hwl _ (Nat.le_refl _)
 ·unfold gS at hv
  rw[if_neg (by omega)] at hv
  rcases List.mem_cons.1 hv with rfl|hv
  ·refine Bj hk ?_
   have hex:∃j:Nat,(j:Int)<r.start.correct/\(dl p r r.steps.length).states.getD j 0∉q.goal:=by
    refine Classical.byContradiction fun hno=>hn fun j hj=>Classical.byContradiction fun h=>hno ⟨j,by omega,h⟩
   obtain⟨j,hj,hjg⟩:=hex
   have hst:=hd.vc.sta j (by omega)
   have hm:(dl p r r.steps.length).states.getD j 0∈uJ p q:=by
    unfold uJ
    refine List.mem_filter.2 ⟨List.mem_map.2 ⟨((dl p r r.steps.length).states.getD j 0).toNat,List.mem_range.2 (by omega),by omega⟩,by simpa using hjg⟩
   have h1:=GF (K:=r.start.correct) (l:=(dl p r r.steps.length).states) (n:=r.start.states.length) hm
   have h2:=sb (f:=fun i=>if decide ((i:Int)<r.start.correct)=true/\(dl p r r.steps.length).states.getD i 0=(dl p r r.steps.length).states.getD j 0 then 1 else 0) (i:=j) (n:=r.start.states.length) (by omega) (fun k _=>by split<;>omega)
   rw[if_pos ⟨by simpa using hj,rfl⟩] at h2
   unfold mc at h1
   omega
  ·obtain⟨i,hi,rfl⟩:=List.mem_map.1 hv
   have hi:=List.mem_range.1 hi
   rw[nB hi,Jc hwl hi]
   obtain⟨_,h⟩:=hw i hi
   unfold o7
   rcases h with ⟨h1,h2⟩|⟨j,h1,h2,h3⟩
   ·rw[if_pos (by omega)]
    dsimp only
    rw[bj,iL,jk hk (b:=true) (.inl ⟨rfl,rfl,rfl⟩) (Nat.le_refl _) (dj hk),h2]
    omega
   ·rw[if_neg (by omega),h1,show(((j+1:Nat):Int)-1).toNat=j by omega]
    have hT:=(gn ((aL hk.rdy.val).rul i hi) (aB aC h2))
    generalize (p.rules.getD i ap).guards.getD j aC=g at*
    have f5:bk (bT p.rules 5 g.message (sch.length+1) 0) (fx s r seg) (ak p q sch)=(dl p r r.steps.length).sent.getD g.message.toNat 0:=gT hk (fire:=5) (b:=true) (.inl ⟨rfl,rfl⟩) hT.1.1 (Nat.le_refl _) (dj hk)
    have f6:bk (bT p.rules 6 g.message (sch.length+1) 0) (fx s r seg) (ak p q sch)=(dl p r r.steps.length).faulty.getD g.message.toNat 0:=gT hk (fire:=6) (b:=false) (.inr ⟨rfl,rfl⟩) hT.1.1 (Nat.le_refl _) (dj hk)
    unfold nv fX uC at h3
    dsimp only at h3⊢
    by_cases hf:p.fault=1
    ·rw[if_pos hf] at h3⊢
     rw[Int.mul_add] at h3
     rw[bj,bj,bj,iL,f5,f6,jl,Int.neg_mul,Int.neg_mul]
     omega
    ·rw[if_neg hf] at h3⊢
     rw[Int.add_zero] at h3
     rw[bj,bj,iL,f5,jl,Int.neg_mul]
     omega
end
end Go.Proofs.YtekmminpfhacpaaGreatDoor
namespace Go.Proofs.YtekmminpfhacpaaGreatDoor
set_option maxRecDepth 100000
set_option maxHeartbeats 4000000
section
variable {p:an} {q:aG} {s:aJ} {r:Rn} {sch seg:List Int}
theorem Bl (hk:dy p q s r sch seg) (xs:List Int) (least:Int):(lu p sch.length xs least).2+bk (lu p sch.length xs least).1 (fx s r seg) (ak p q sch)=oS r.start.correct (dl p r r.steps.length).states r.start.states.length xs-least:=by
 unfold lu
 dsimp only
 rw[zB hk,iL]
 omega
theorem Jd (hk:dy p q s r sch seg) (hq:q.kind=1) {number:Nat} (h:∀w∈gS p q sch.length number,0<=w.2+bk w.1 (fx s r seg) (ak p q sch)):yR p q (dl p r r.steps.length):=by
 obtain⟨c0,c1,c2,_⟩:=lK hk
 obtain⟨e1,e2⟩:=mR hk
 have hV:=aF hk.prp
 refine⟨fun i hi=>?_, .inl ?_⟩
 ·have hp:=jB hV hq hi
  have hw:=h (lu p sch.length (q.bad.getD i br).states (q.bad.getD i br).least) (by
   unfold gS
   rw[if_pos hq]
   exact List.mem_map.2 ⟨_,aB br hi,rfl⟩)
  rw[Bl hk] at hw
  have hn:(q.bad.getD i br).states.Nodup:=(gr hp.1).imp fun{a b} (h:a<b)=>by omega
  rw[<-e2,zy c0 (by omega) hn,<-e1] at hw
  omega
 ·have ha:=(hV.bad hq).2.2.1
  unfold mh at ha
  by_cases e:q.adjacent.length=0
  ·exact e
  ·rw[if_neg e,if_pos hk.thr.1] at ha
   omega
theorem Bm {K:Int} {l:List Int} {n:Nat}:∀{xs:List Int},(∀x∈xs,mc K true x l n=0)->oS K l n xs=0
 |[],_=>rfl
 |x::xs,h=>by
  rw[oS,h x List.mem_cons_self,Bm (xs:=xs) fun y hy=>h y (List.mem_cons_of_mem _ hy)]
  rfl
theorem GI (hk:dy p q s r sch seg) (hq:q.kind=2) {number:Nat} (h:∀w∈gS p q sch.length number,0<=w.2+bk w.1 (fx s r seg) (ak p q sch)):
  ¬kJ q (dl p r r.steps.length)/\∀i j:Nat,i<p.rules.length->¬JT p s (dl p r r.steps.length) (i:Int) (j:Int):=by
 obtain⟨c0,c1,c2,_⟩:=lK hk
 obtain⟨e1,e2⟩:=mR hk
 constructor
 ·intro hy
  have hw:=h (lu p sch.length (uJ p q) 1) (by unfold gS;rw[if_neg (by omega)];exact List.mem_cons_self)
  rw[Bl hk] at hw
  have hz:oS r.start.correct (dl p r r.steps.length).states r.start.states.length (uJ p q)=0:=Bm fun x hx=>by
   unfold uJ at hx
   have hx:=(List.mem_filter.1 hx).2
   have hx:x∉q.goal:=by simpa using hx
   refine gN fun i hi=>?_
   rw[if_neg]
   rintro⟨a,b⟩
   have a:(i:Int)<r.start.correct:=by simpa using a
   exact hx (b▸hy i (by omega))
  omega
 ·intro i j hi hf
  obtain⟨hj,k,_,he⟩:=hf
  obtain⟨⟨_,_,q2⟩,hs,_,hkin⟩:=he
  dsimp only at q2 hs hkin
  rw[tN] at hs hkin
  rw[tN] at hs
  have hri:=hk.thr.2.2 i hi
  unfold uE at hkin
  rw[if_neg (by have:=hri.1;omega),if_pos hri.1] at hkin
  have hgr:=hkin.2.1
  have hw:=h (o7 p sch.length (p.rules.getD i ap) ((x5 p number).getD i 0)) (by
   unfold gS
   rw[if_neg (by omega)]
   exact List.mem_cons_of_mem _ (List.mem_map.2 ⟨i,List.mem_range.2 hi,rfl⟩))
  have hch:=yX p.rules number i
  rw[nB hi] at hw
  unfold o7 at hw
  by_cases hz:xZ p.rules number i=0
  ·rw[if_pos (by omega)] at hw
   dsimp only at hw
   rw[bj,iL,jk hk (b:=true) (.inl ⟨rfl,rfl,rfl⟩) (Nat.le_refl _) (dj hk)] at hw
   have h2:=sb (f:=fun i'=>if decide ((i':Int)<r.start.correct)=true/\(dl p r r.steps.length).states.getD i' 0=(p.rules.getD i ap).src then 1 else 0) (i:=j) (n:=r.start.states.length) (by omega) (fun k _=>by split<;>omega)
   have hj2:(j:Int)<r.start.correct:=by omega
   rw[if_pos ⟨by simpa using hj2,hs⟩] at h2
   unfold mc at hw
   omega
  ·rw[if_neg (by omega)] at hw
   obtain⟨g0,hg0⟩:∃g0,xZ p.rules number i=g0+1:=⟨xZ p.rules number i-1,by omega⟩
   rw[hg0,show(((g0+1:Nat):Int)-1).toNat=g0 by omega] at hw
   have hlt:g0<(p.rules.getD i ap).guards.length:=by omega
   have hga:=hgr g0 hlt
   have hT:=gn ((aL hk.rdy.val).rul i hi) (aB aC hlt)
   generalize (p.rules.getD i ap).guards.getD g0 aC=g at*
   have f5:bk (bT p.rules 5 g.message (sch.length+1) 0) (fx s r seg) (ak p q sch)=(dl p r r.steps.length).sent.getD g.message.toNat 0:=gT hk (fire:=5) (b:=true) (.inl ⟨rfl,rfl⟩) hT.1.1 (Nat.le_refl _) (dj hk)
   have f6:bk (bT p.rules 6 g.message (sch.length+1) 0) (fx s r seg) (ak p q sch)=(dl p r r.steps.length).faulty.getD g.message.toNat 0:=gT hk (fire:=6) (b:=false) (.inr ⟨rfl,rfl⟩) hT.1.1 (Nat.le_refl _) (dj hk)
   unfold nv fX uC at hga
   dsimp only at hga hw
   by_cases hf:p.fault=1
   ·rw[if_pos hf] at hga hw
    rw[Int.mul_add] at hga
    rw[bj,bj,bj,iL,f5,f6,jl,Int.neg_mul,Int.neg_mul] at hw
    omega
   ·rw[if_neg hf] at hga hw
    rw[Int.add_zero] at hga
    rw[bj,bj,iL,f5,jl,Int.neg_mul] at hw
    omega
end
end Go.Proofs.YtekmminpfhacpaaGreatDoor
