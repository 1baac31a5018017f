import Derived.Test.YtekmminpfhacpaaGreatDoorPA
import Derived.Test.YtekmminpfhacpaaGreatDoorFL
set_option linter.unusedVariables false
set_option linter.unusedSimpArgs false
namespace Go.Proofs.YtekmminpfhacpaaGreatDoor
section
set_option maxRecDepth 100000
set_option maxHeartbeats 4000000
def gk (f:Nat->Int):Nat->Int
 |0=>0
 |n+1=>gk f n+f n
theorem fc {f g:Nat->Int}:∀{n:Nat},(∀i,i<n->f i=g i)->gk f n=gk g n
 |0,_=>rfl
 |n+1,h=>by rw[gk,gk,fc (n:=n) fun i hi=>h i (by omega),h n (by omega)]
theorem pU {f:Nat->Int}:∀{n:Nat},(∀i,i<n->f i=0)->gk f n=0
 |0,_=>rfl
 |n+1,h=>by rw[gk,pU (n:=n) fun i hi=>h i (by omega),h n (by omega)];rfl
theorem IK {f:Nat->Int}:∀{n:Nat},(∀i,i<n->0<=f i)->0<=gk f n
 |0,_=>Int.le_refl _
 |n+1,h=>by
  have a:=IK (n:=n) fun i hi=>h i (by omega)
  have b:=h n (by omega)
  rw[gk];omega
theorem xH {g:Nat->Int} {m:Nat}:∀{n:Nat},m<=n->gk (fun k=>if k<m then g k else 0) n=gk g m
 |0,h=>by
  obtain rfl:m=0:=by omega
  rfl
 |n+1,h=>by
  by_cases e:m=n+1
  ·subst e
   exact fc fun i hi=>if_pos hi
  ·rw[gk,xH (n:=n) (by omega),if_neg (by omega)]
   omega
theorem Dr {f g:Nat->Int} {i0:Nat}:∀{n:Nat},i0<n->(∀i,i<n->i≠i0->f i=g i)->gk f n=gk g n+f i0-g i0
 |0,hi,_=>by omega
 |n+1,hi,h=>by
  rw[gk,gk]
  by_cases e:i0=n
  ·subst e
   rw[fc fun i h2=>h i (by omega) (by omega)]
   omega
  ·rw[Dr (n:=n) (by omega) fun i h2=>h i (by omega),h n (by omega) (fun h2=>e h2.symm)]
   omega
theorem xI {c a:Co}:∀{l:List Vb},(∀v∈l,a v=0)->cg c a l=0
 |[],_=>rfl
 |v::l,h=>by rw[cg,h v List.mem_cons_self,xI (l:=l) fun x hx=>h x (List.mem_cons_of_mem _ hx)];simp
theorem qT {c:Co} {v0:Vb} {k:Int}:∀{l:List Vb},l.Nodup->v0∈l->cg c (fun v=>if v=v0 then k else 0) l=c v0*k
 |[],_,h=>by cases h
 |v::l,hn,h=>by
  obtain⟨hv,hn⟩:=List.nodup_cons.1 hn
  rw[cg]
  by_cases e:v=v0
  ·subst e
   rw[if_pos rfl,xI fun x hx=>if_neg fun(e2:x=v)=>hv (e2▸hx)]
   omega
  ·rcases List.mem_cons.1 h with h|h
   ·exact absurd h.symm e
   ·rw[if_neg e,qT hn h];omega
theorem ju (c a b:Co):∀l:List Vb,cg c (fun v=>a v+b v) l=cg c a l+cg c b l
 |[]=>rfl
 |v::l=>by rw[cg,cg,cg,ju c a b l,Int.mul_add];omega
theorem IL {c:Co} {c0:aD} {vars:List Vb} (hn:vars.Nodup):∀{n:Nat},(∀i,i<n->mW c0 i∈vars)->cg c (fun v=>cS c0 v n) vars=gk (fun i=>c (mW c0 i)) n
 |0,_=>xI fun v _=>rfl
 |n+1,h=>by
  have e:(fun v=>cS c0 v (n+1))=fun v=>(fun v=>cS c0 v n) v+(fun v=>if v=mW c0 n then 1 else 0) v:=rfl
  rw[e,ju,IL hn fun i hi=>h i (by omega),qT hn (h n (by omega)),gk]
  omega
theorem IM {c:Co} {c0:aD} {xs:List bX} {seg:List Int} {vars:List Vb} (hn:vars.Nodup):∀{n:Nat},(∀k,k<n->sd c0 xs seg k∈vars)->cg c (fun v=>cT c0 xs seg v n) vars=gk (fun k=>c (sd c0 xs seg k)) n
 |0,_=>xI fun v _=>rfl
 |n+1,h=>by
  have e:(fun v=>cT c0 xs seg v (n+1))=fun v=>(fun v=>cT c0 xs seg v n) v+(fun v=>if v=sd c0 xs seg n then 1 else 0) v:=rfl
  rw[e,ju,IM hn fun i hi=>h i (by omega),qT hn (h n (by omega)),gk]
  omega
theorem O4 {c:Co} {s:aN} {vars:List Vb} (hn:vars.Nodup) (h0:(⟨0,0,0⟩:Vb)∈vars) (h1:(⟨1,0,0⟩:Vb)∈vars) (h2:(⟨2,0,0⟩:Vb)∈vars):
  cg c (BU s) vars=c ⟨0,0,0⟩*s.n+c ⟨1,0,0⟩*s.t+c ⟨2,0,0⟩*s.f:=by
 have e:BU s=fun v=>(fun v=>(fun v=>if v=⟨0,0,0⟩ then s.n else 0) v+(fun v=>if v=⟨1,0,0⟩ then s.t else 0) v) v+(fun v=>if v=⟨2,0,0⟩ then s.f else 0) v:=by
  funext v
  unfold BU
  dsimp only
  by_cases e0:v=⟨0,0,0⟩
  ·subst e0;simp
  ·by_cases e1:v=⟨1,0,0⟩
   ·subst e1;simp
   ·by_cases e2:v=⟨2,0,0⟩
    ·subst e2;simp
    ·simp[e0,e1,e2]
 rw[e,ju,ju,qT hn h0,qT hn h1,qT hn h2]
theorem O5 {c:Co} {s:aN} {c0:aD} {xs:List bX} {seg:List Int} {vars:List Vb} {n m:Nat} (hn:vars.Nodup) (h0:(⟨0,0,0⟩:Vb)∈vars) (h1:(⟨1,0,0⟩:Vb)∈vars) (h2:(⟨2,0,0⟩:Vb)∈vars)
  (hs:∀i,i<n->mW c0 i∈vars) (ht:∀k,k<m->sd c0 xs seg k∈vars):
  cg c (O3 s c0 xs seg n m) vars=c ⟨0,0,0⟩*s.n+c ⟨1,0,0⟩*s.t+c ⟨2,0,0⟩*s.f+gk (fun i=>c (mW c0 i)) n+gk (fun k=>c (sd c0 xs seg k)) m:=by
 have e:O3 s c0 xs seg n m=fun v=>(fun v=>BU s v+(fun v=>cS c0 v n) v) v+(fun v=>cT c0 xs seg v m) v:=rfl
 rw[e,ju,ju,O4 hn h0 h1 h2,IL hn hs,IM hn ht]
theorem si {s:aN} {c0:aD} {xs:List bX} {seg:List Int} {n m:Nat} {v:Vb} (hv:v.kind<3):O3 s c0 xs seg n m v=BU s v:=by
 have a:∀n,cS c0 v n=0:=fun n=>by
  induction n with
  |zero=>rfl
  |succ n ih=>
   rw[cS,ih,if_neg]
   ·rfl
   ·intro e
    have:=congrArg Vb.kind e
    unfold mW at this
    dsimp only at this
    split at this<;>omega
 have b:∀m,cT c0 xs seg v m=0:=fun m=>by
  induction m with
  |zero=>rfl
  |succ m ih=>
   rw[cT,ih,if_neg]
   ·rfl
   ·intro e
    have:=congrArg Vb.kind e
    unfold sd at this
    dsimp only at this
    split at this<;>omega
 unfold O3
 rw[a,b]
 omega
theorem ue:∀(gs sch:List Int),∃t,fb sch gs=sch++t/\∀x∈t,x∈gs
 |[],sch=>⟨[],by simp[fb],by simp⟩
 |g::gs,sch=>by
  unfold fb
  split
  ·obtain⟨t,h1,h2⟩:=ue gs sch
   exact⟨t,h1,fun x hx=>List.mem_cons_of_mem _ (h2 x hx)⟩
  ·obtain⟨t,h1,h2⟩:=ue gs (sch++[g])
   refine⟨g::t,by rw[h1];simp,fun x hx=>?_⟩
   rcases List.mem_cons.1 hx with rfl|hx
   ·exact List.mem_cons_self
   ·exact List.mem_cons_of_mem _ (h2 x hx)
theorem vS {a b:List Int} {j:Nat} (h:j<a.length):(a++b).getD j 0=a.getD j 0:=by
 rw[gD,List.getElem?_append_left h,<-gD]
theorem oy {a b:List Int} {j:Nat} (h:a.length<=j):(a++b).getD j 0=b.getD (j-a.length) 0:=by
 rw[gD,List.getElem?_append_right h,<-gD]
structure Sk (p:ap) (s:aN) (l:List aD) (sch seg:List Int) (R:List Int×List Int):Prop where
 low:∀k,k<l.length->(sch.length:Int)<=R.2.getD (seg.length+k) 0
 mono:∀k,k+1<l.length->R.2.getD (seg.length+k) 0<=R.2.getD (seg.length+(k+1)) 0
 last:0<l.length->R.2.getD (seg.length+(l.length-1)) 0=R.1.length
 src:∀k,k<l.length->∀j:Nat,sch.length<=j->(j:Int)<R.2.getD (seg.length+k) 0->∃k',k'<=k/\R.1.getD j 0∈fJ p s (l.getD k' cf) (aA p.rules).length
theorem Ds (p:ap) (s:aN):∀(l:List aD) (sch seg:List Int),Sk p s l sch seg (qS p s l sch seg)
 |[],sch,seg=>⟨fun k hk=>by simp at hk,fun k hk=>by simp at hk,fun h=>by simp at h,fun k hk=>by simp at hk⟩
 |c::l,sch,seg=>by
  obtain⟨t0,h0,h00⟩:=ue (fJ p s c (aA p.rules).length) sch
  have hF:=sc p s l (fb sch (fJ p s c (aA p.rules).length)) (seg++[((fb sch (fJ p s c (aA p.rules).length)).length:Int)])
  obtain⟨g1,g2,g3,g4⟩:=Ds p s l (fb sch (fJ p s c (aA p.rules).length)) (seg++[((fb sch (fJ p s c (aA p.rules).length)).length:Int)])
  have hl:(seg++[((fb sch (fJ p s c (aA p.rules).length)).length:Int)]).length=seg.length+1:=by simp
  have e:qS p s (c::l) sch seg=qS p s l (fb sch (fJ p s c (aA p.rules).length)) (seg++[((fb sch (fJ p s c (aA p.rules).length)).length:Int)]):=rfl
  have h2:=hF.old seg.length (by omega)
  rw[oy (Nat.le_refl _),Nat.sub_self] at h2
  obtain⟨t,h1⟩:=hF.pre
  rw[hl] at g1 g2 g3 g4
  rw[<-e] at h1 h2 g1 g2 g3 g4
  generalize qS p s (c::l) sch seg=R at*
  have hz:R.2.getD seg.length 0=((fb sch (fJ p s c (aA p.rules).length)).length:Int):=h2
  have hlen:(fb sch (fJ p s c (aA p.rules).length)).length=sch.length+t0.length:=by rw[h0,List.length_append]
  have hsh:∀k,seg.length+(k+1)=seg.length+1+k:=fun k=>by omega
  refine⟨fun k hk=>?_,fun k hk=>?_,fun _=>?_,fun k hk j hj1 hj2=>?_⟩
  ·cases k with
   |zero=>rw[Nat.add_zero,hz];omega
   |succ k=>
    rw[hsh]
    have:=g1 k (by simpa using hk)
    omega
  ·cases k with
   |zero=>
    rw[Nat.add_zero,hz,hsh 0]
    exact g1 0 (by simpa using hk)
   |succ k=>
    rw[hsh,hsh (k+1)]
    have:=g2 k (by simpa using hk)
    rw[show seg.length+1+(k+1)=seg.length+1+(k+1) from rfl]
    exact this
  ·by_cases el:l.length=0
   ·have:l=[]:=List.length_eq_zero_iff.1 el
    subst this
    rw[show(c::([]:List aD)).length-1=0 from rfl,Nat.add_zero,hz]
    have:R=(fb sch (fJ p s c (aA p.rules).length),seg++[((fb sch (fJ p s c (aA p.rules).length)).length:Int)]):=e
    rw[this]
   ·have:=g3 (by omega)
    rw[List.length_cons,show seg.length+(l.length+1-1)=seg.length+1+(l.length-1) by omega]
    exact this
  ·have hold:∀j:Nat,sch.length<=j->(j:Int)<((fb sch (fJ p s c (aA p.rules).length)).length:Int)->R.1.getD j 0∈fJ p s c (aA p.rules).length:=by
    intro j hj1 hj2
    rw[h1,vS (by omega),h0,oy hj1]
    exact h00 _ (aH 0 (by omega))
   cases k with
   |zero=>
    rw[Nat.add_zero,hz] at hj2
    exact⟨0,Nat.le_refl _,hold j hj1 hj2⟩
   |succ k=>
    by_cases hj3:(j:Int)<((fb sch (fJ p s c (aA p.rules).length)).length:Int)
    ·exact⟨0,Nat.zero_le _,hold j hj1 hj3⟩
    ·rw[hsh] at hj2
     obtain⟨k',a,b⟩:=g4 k (by simpa using hk) j (by omega) hj2
     exact⟨k'+1,by omega,b⟩
theorem Du {f:Nat->Int} {J:Int}:∀{n:Nat},(∀k,k+1<n->f k<=f (k+1))->∃m,m<=n/\∀k,k<n->(f k<J↔k<m)
 |0,_=>⟨0,Nat.le_refl _,fun k hk=>by omega⟩
 |n+1,h=>by
  obtain⟨m,hm,hk⟩:=Du (f:=f) (J:=J) (n:=n) fun k hk=>h k (by omega)
  by_cases e:m=n
  ·by_cases e2:f n<J
   ·refine⟨n+1,Nat.le_refl _,fun k h2=>⟨fun _=>h2,fun _=>?_⟩⟩
    by_cases e3:k=n
    ·subst e3;exact e2
    ·exact(hk k (by omega)).2 (by omega)
   ·refine⟨n,by omega,fun k h2=>?_⟩
    by_cases e3:k=n
    ·subst e3;exact⟨fun x=>absurd x e2,fun x=>by omega⟩
    ·subst e;exact hk k (by omega)
  ·refine⟨m,by omega,fun k h2=>?_⟩
   by_cases e3:k=n
   ·subst e3
    have a:=h (k-1) (by omega)
    rw[Nat.sub_add_cancel (by omega)] at a
    have b:=hk (k-1) (by omega)
    constructor
    ·intro x
     have:=b.1 (by omega)
     omega
    ·intro x;omega
   ·exact hk k (by omega)
def uN (K:Int) (b:Bool) (y:Int) (l:List Int) (n:Nat):Int:=gk (fun i=>if decide ((i:Int)<K)=b/\l.getD i 0=y then 1 else 0) n
def Rh (p:ap) (K:Int) (b:Bool) (y:Int) (xs:List bX) (k:Nat):Int:=if decide ((xs.getD k cX).process<K)=b then Mx p.rules y ⟨0,0,(xs.getD k cX).rule⟩ else 0
def MQ (p:ap) (K:Int) (b:Bool) (m:Int) (xs:List bX) (k:Nat):Int:=if decide ((xs.getD k cX).process<K)=b/\m∈(cQ p (xs.getD k cX)).send then 1 else 0
def IP:Bool->aD->List Int
 |true,d=>d.sent
 |false,d=>d.faulty
theorem xJ {p:ap} {s:aN} {c:aD} {xs:List bX} (h:fp p s c) (hr:dB p s c xs) {k:Nat} (hk:k<=xs.length):((kT p c xs).getD k cf).correct=c.correct/\((kT p c xs).getD k cf).states.length=c.states.length:=by
 have hd:=pS h hr k hk
 have a:=hd.vc.cor
 have b:=h.vc.cor
 have a2:=hd.vc.len
 have b2:=h.vc.len
 exact⟨by omega,by omega⟩
theorem IQ {p:ap} {s:aN} {c:aD} {xs:List bX} (ht:io p) (h:fp p s c) (hr:dB p s c xs) (b:Bool) (y:Int):∀k,k<=xs.length->
  uN c.correct b y ((kT p c xs).getD k cf).states c.states.length=uN c.correct b y c.states c.states.length+gk (Rh p c.correct b y xs) k
 |0,_=>by rw[gk];show uN c.correct b y c.states c.states.length=_;omega
 |k+1,hk=>by
  have ih:=IQ ht h hr b y k (by omega)
  obtain⟨⟨⟨⟨r1,r2⟩,⟨q1,q2⟩⟩,hs,_,_⟩,_,hst⟩:=jt h hr k (by omega)
  obtain⟨hcc,hll⟩:=xJ h hr (k:=k) (by omega)
  rw[hst,gk]
  generalize hd:(kT p c xs).getD k cf=d at*
  have hri:=ht.2.2 (xs.getD k cX).rule.toNat (by omega)
  have hmv:Rh p c.correct b y xs k=if decide ((xs.getD k cX).process<c.correct)=b then(if(cQ p (xs.getD k cX)).dst=y then 1 else 0)-(if(p.rules.getD (xs.getD k cX).rule.toNat au).src=y then 1 else 0) else 0:=rfl
  rw[hmv]
  clear hmv
  generalize xs.getD k cX=x at*
  rw[qQ (show(cQ p x).kind=1 from hri.1) ⟨q1,q2⟩]
  obtain⟨i0,e0⟩:∃i0:Nat,x.process=i0:=⟨x.process.toNat,by omega⟩
  have hi0:i0<d.states.length:=by omega
  have hu:=Dr (f:=fun i=>if decide ((i:Int)<c.correct)=b/\(d.states.set i0 (cQ p x).dst).getD i 0=y then 1 else 0) (g:=fun i=>if decide ((i:Int)<c.correct)=b/\d.states.getD i 0=y then 1 else 0) (i0:=i0) (n:=c.states.length) (by omega)
   (fun i hi hne=>by rw[getD_set_ne _ (fun e=>hne e.symm)])
  rw[mU _ hi0] at hu
  rw[e0] at hs⊢
  rw[tN] at hs⊢
  rw[hs] at hu
  unfold uN at ih⊢
  rw[hu,ih]
  by_cases e1:decide ((i0:Int)<c.correct)=b
  ·simp only[e1,true_and,if_true]
   (repeat' split)<;>omega
  ·simp only[e1,false_and,if_false]
   (repeat' split)<;>omega
theorem vT {p:ap} {r:bE} (h:il p r) (hk:r.kind=1):r.send.Nodup:=by
 have a:=h.kin
 unfold fg at a
 rw[if_pos hk] at a
 have hz:=cz a (cE r.send p.messages.length) (by simp)
 exact(lJ hz).imp fun{a b} (h:a<b)=>by omega
theorem BV {p:ap} {s:aN} {c:aD} {xs:List bX} (ht:io p) (h:fp p s c) (hr:dB p s c xs) (b:Bool) (m:Nat) (h0:(IP b c).getD m 0=0):∀k,k<=xs.length->
  (IP b ((kT p c xs).getD k cf)).getD m 0=gk (MQ p c.correct b m xs) k
 |0,_=>h0
 |k+1,hk=>by
  have ih:=BV ht h hr b m h0 k (by omega)
  have hd:=pS h hr k (by omega)
  obtain⟨⟨⟨⟨r1,r2⟩,⟨q1,q2⟩⟩,hs,_,_⟩,_,hst⟩:=jt h hr k (by omega)
  obtain⟨hcc,hll⟩:=xJ h hr (k:=k) (by omega)
  rw[hst,gk]
  generalize (kT p c xs).getD k cf=d at*
  have hri:=ht.2.2 (xs.getD k cX).rule.toNat (by omega)
  have hsn:MQ p c.correct b m xs k=if decide ((xs.getD k cX).process<c.correct)=b/\(m:Int)∈(cQ p (xs.getD k cX)).send then 1 else 0:=rfl
  rw[hsn]
  clear hsn
  have hR:=dK h.val (i:=(xs.getD k cX).rule.toNat) (by omega)
  have hn:=vT hR hri.1
  have hse:=hR.send
  have e:=bump_get (cQ p (xs.getD k cX)).send (IP b d) m hn (fun z hz=>by
   obtain⟨i,hi,e⟩:=List.getElem_of_mem hz
   have hr2:=hse i hi
   have hr3:0<=(cQ p (xs.getD k cX)).send.getD i 0/\(cQ p (xs.getD k cX)).send.getD i 0<p.messages.length:=hr2
   rw[am 0 hi,e] at hr3
   have a1:=hd.vc.snl
   have a2:=hd.vc.fal
   cases b<;>simp only[IP]<;>omega)
  generalize xs.getD k cX=x at*
  cases b
  ·show(if x.process<d.correct then d.faulty else bP d.faulty (cQ p x).send).getD m 0=_
   by_cases hp:x.process<d.correct
   ·rw[if_pos hp,if_neg (fun hh=>by have:=hh.1;rw[hcc] at hp;simp[hp] at this)]
    show d.faulty.getD m 0=_
    rw[show d.faulty.getD m 0=_ from ih]
    omega
   ·rw[if_neg hp]
    rw[show(bP d.faulty (cQ p x).send).getD m 0=_ from e]
    rw[show(IP false d).getD m 0=_ from ih]
    rw[hcc] at hp
    simp[hp]
  ·show(if x.process<d.correct then bP d.sent (cQ p x).send else d.sent).getD m 0=_
   by_cases hp:x.process<d.correct
   ·rw[if_pos hp]
    rw[show(bP d.sent (cQ p x).send).getD m 0=_ from e]
    rw[show(IP true d).getD m 0=_ from ih]
    rw[hcc] at hp
    simp[hp]
   ·rw[if_neg hp,if_neg (fun hh=>by have:=hh.1;rw[hcc] at hp;simp[hp] at this)]
    rw[show d.sent.getD m 0=_ from ih]
    omega
theorem Dv {p:ap} {s:aN} {c:aD} {xs:List bX} (h:fp p s c) (hr:dB p s c xs) {i k':Nat} (hi:i<(aA p.rules).length) (hu:nO p s ((kT p c xs).getD k' cf) i):∀k,k'<=k->k<=xs.length->nO p s ((kT p c xs).getD k cf) i
 |0,h1,_=>by
  obtain rfl:k'=0:=by omega
  exact hu
 |k+1,h1,h2=>by
  by_cases e:k'=k+1
  ·subst e;exact hu
  ·have ih:=Dv h hr hi hu k (by omega) (by omega)
   obtain⟨_,_,hst⟩:=jt h hr k (by omega)
   rw[hst]
   exact Ik h.val hi ih
structure nU (p:ap) (q:aJ) (s:aN) (r:Rn) (sch seg:List Int):Prop where
 prp:bF p q=0
 thr:io p
 rdy:fp p s r.start
 run:dB p s r.start r.steps
 ini:MO p q s r.start
 len:r.steps.length<=48
 sta:r.start.states.length<=8
 scb:dM (aA p.rules).length sch
 var:∀k,k<r.steps.length->sd r.start r.steps seg k∈ao p q sch
 rng:∀k,k<r.steps.length->0<=seg.getD k 0/\seg.getD k 0<=sch.length
 mon:∀k,k+1<r.steps.length->seg.getD k 0<=seg.getD (k+1) 0
theorem QT.sg {p:ap} {q:aJ} {s:aN} {r:Rn} (h:QT p q s r):nU p q s r (QS p s r).1 (QS p s r).2:=by
 refine⟨h.prp,h.thr,h.rdy,h.run,h.ini,h.len,h.sta,h.sch,fun k hk=>IJ h.thr h.rdy h.run hk,fun k hk=>?_,fun k hk=>?_⟩
 ·obtain⟨n,e1,e2,_⟩:=(sc p s (kT p r.start r.steps) [] []).new k (by rw[xG];omega)
  rw[List.length_nil,Nat.zero_add] at e1
  unfold QS
  rw[e1]
  exact⟨by omega,by omega⟩
 ·have:=(Ds p s (kT p r.start r.steps) [] []).mono k (by rw[xG];omega)
  rw[List.length_nil,Nat.zero_add,Nat.zero_add] at this
  exact this
section
variable {p:ap} {q:aJ} {s:aN} {r:Rn} {sch seg:List Int}
noncomputable abbrev uO (s:aN) (r:Rn) (seg:List Int):Co:=O3 s r.start r.steps seg r.start.states.length r.steps.length
noncomputable abbrev uP (p:ap) (r:Rn) (k:Nat):aD:=(kT p r.start r.steps).getD k cf
theorem IR (hk:nU p q s r sch seg) (c:Co):cg c (uO s r seg) (ao p q sch)=
  c ⟨0,0,0⟩*s.n+c ⟨1,0,0⟩*s.t+c ⟨2,0,0⟩*s.f+gk (fun i=>c (mW r.start i)) r.start.states.length+gk (fun k=>c (sd r.start r.steps seg k)) r.steps.length:=
 O5 (cL hk.prp _) (by unfold ao;simp) (by unfold ao;simp) (by unfold ao;simp) (fun i hi=>Fb hk.prp hk.thr hk.rdy hk.ini hi) (fun k hk2=>hk.var k hk2)
theorem Dw (hk:nU p q s r sch seg) {k:Nat} (h:k<r.steps.length):0<=seg.getD k 0/\seg.getD k 0<=sch.length:=hk.rng k h
theorem QU (hk:nU p q s r sch seg) (J:Int):∃m,m<=r.steps.length/\∀k,k<r.steps.length->(seg.getD k 0<J↔k<m):=
 Du (f:=fun k=>seg.getD k 0) hk.mon
theorem O6 (hk:nU p q s r sch seg) {start fire y:Int} {b:Bool} (hs:start=3/\fire=5/\b=true\/start=4/\fire=6/\b=false) {J m:Nat} (hm:m<=r.steps.length) (hc:∀k,k<r.steps.length->(seg.getD k 0<((J:Nat):Int)↔k<m)):
  cg (cG p.rules start fire y J 0) (uO s r seg) (ao p q sch)=uN r.start.correct b y (uP p r m).states r.start.states.length:=by
 rw[IR hk,IQ hk.thr hk.rdy hk.run b y m hm]
 have e0:∀k:Int,k<3->cG p.rules start fire y J 0 ⟨k,0,0⟩=0:=fun k h3=>by
  unfold cG
  rw[if_neg (fun e=>by have:=congrArg Vb.kind e;dsimp only at this;omega),if_neg (fun e=>by have:=e.1;dsimp only at this;omega)]
  rfl
 rw[e0 0 (by decide),e0 1 (by decide),e0 2 (by decide)]
 have e1:gk (fun i=>cG p.rules start fire y J 0 (mW r.start i)) r.start.states.length=uN r.start.correct b y r.start.states r.start.states.length:=by
  unfold uN
  refine fc fun i hi=>?_
  unfold cG mW
  have hf:¬gg p.rules.length fire J 0 ⟨if(i:Int)<r.start.correct then 3 else 4,0,r.start.states.getD i 0⟩:=fun e=>by
   have:=e.1
   dsimp only at this
   split at this<;>omega
  rw[if_neg hf,Int.add_zero]
  by_cases hp:(i:Int)<r.start.correct
  ·rw[if_pos hp]
   rcases hs with ⟨rfl,rfl,rfl⟩|⟨rfl,rfl,rfl⟩
   ·simp[hp]
   ·simp[hp]
  ·rw[if_neg hp]
   rcases hs with ⟨rfl,rfl,rfl⟩|⟨rfl,rfl,rfl⟩
   ·simp[hp]
   ·simp[hp]
 have e2:gk (fun k=>cG p.rules start fire y J 0 (sd r.start r.steps seg k)) r.steps.length=gk (Rh p r.start.correct b y r.steps) m:=by
  rw[<-xH hm]
  refine fc fun k h2=>?_
  have hn:=Dw hk (k:=k) (by omega)
  have hck:=hc k h2
  obtain⟨⟨⟨⟨r1,r2⟩,_⟩,_⟩,_,_⟩:=jt hk.rdy hk.run k h2
  unfold cG
  rw[if_neg (fun e=>by have:=congrArg Vb.kind e;unfold sd at this;dsimp only at this;split at this<;>omega),Int.zero_add]
  unfold Rh
  have hf:gg p.rules.length fire J 0 (sd r.start r.steps seg k)↔k<m/\decide ((r.steps.getD k cX).process<r.start.correct)=b:=by
   unfold gg sd
   dsimp only
   rw[<-hck]
   by_cases hp:(r.steps.getD k cX).process<r.start.correct
   ·rw[if_pos hp]
    rcases hs with ⟨rfl,rfl,rfl⟩|⟨rfl,rfl,rfl⟩
    ·simp only[hp,decide_true,and_true,true_and];omega
    ·simp only[hp,decide_true];constructor
     ·intro x;omega
     ·intro x;simp at x
   ·rw[if_neg hp]
    rcases hs with ⟨rfl,rfl,rfl⟩|⟨rfl,rfl,rfl⟩
    ·simp only[hp,decide_false];constructor
     ·intro x;omega
     ·intro x;simp at x
    ·simp only[hp,decide_false,and_true,true_and];omega
  by_cases h1:k<m
  ·rw[if_pos h1]
   by_cases h3:decide ((r.steps.getD k cX).process<r.start.correct)=b
   ·rw[if_pos (hf.2 ⟨h1,h3⟩),if_pos h3];rfl
   ·rw[if_neg (fun h=>h3 (hf.1 h).2),if_neg h3]
  ·rw[if_neg h1,if_neg (fun h=>h1 (hf.1 h).1)]
 rw[e1,e2]
 omega
theorem zN (hk:nU p q s r sch seg) (b:Bool) (m:Nat):(IP b r.start).getD m 0=0:=by
 have a:=hk.rdy.vc.snl
 have a2:=hk.rdy.vc.fal
 by_cases hm:m<r.start.sent.length
 ·have:=hk.ini.2.2.1 m hm
  cases b
  ·exact this.2
  ·exact this.1
 ·cases b
  ·show r.start.faulty.getD m 0=0
   rw[gD,List.getElem?_eq_none (by omega)];rfl
  ·show r.start.sent.getD m 0=0
   rw[gD,List.getElem?_eq_none (by omega)];rfl
theorem IU (hk:nU p q s r sch seg) {fire msg:Int} {b:Bool} (hs:fire=5/\b=true\/fire=6/\b=false) (hg:0<=msg) {J m:Nat} (hm:m<=r.steps.length) (hc:∀k,k<r.steps.length->(seg.getD k 0<((J:Nat):Int)↔k<m)):
  cg (cH p.rules fire msg J 0) (uO s r seg) (ao p q sch)=(IP b (uP p r m)).getD msg.toNat 0:=by
 rw[IR hk,BV hk.thr hk.rdy hk.run b msg.toNat (zN hk b _) m hm]
 have e0:∀v:Vb,v.kind<5->cH p.rules fire msg J 0 v=0:=fun v h3=>by
  unfold cH
  rw[if_neg (fun e=>by have:=e.1.1;omega)]
 rw[e0 _ (by decide),e0 _ (by decide),e0 _ (by decide)]
 have e1:gk (fun i=>cH p.rules fire msg J 0 (mW r.start i)) r.start.states.length=0:=pU fun i _=>e0 _ (by unfold mW;dsimp only;split<;>omega)
 have e2:gk (fun k=>cH p.rules fire msg J 0 (sd r.start r.steps seg k)) r.steps.length=gk (MQ p r.start.correct b (msg.toNat:Nat) r.steps) m:=by
  rw[<-xH hm]
  refine fc fun k h2=>?_
  have hn:=Dw hk (k:=k) (by omega)
  have hck:=hc k h2
  obtain⟨⟨⟨⟨r1,r2⟩,_⟩,_⟩,_,_⟩:=jt hk.rdy hk.run k h2
  have hf:gg p.rules.length fire J 0 (sd r.start r.steps seg k)↔k<m/\decide ((r.steps.getD k cX).process<r.start.correct)=b:=by
   unfold gg sd
   dsimp only
   rw[<-hck]
   by_cases hp:(r.steps.getD k cX).process<r.start.correct
   ·rw[if_pos hp]
    rcases hs with ⟨rfl,rfl⟩|⟨rfl,rfl⟩
    ·simp only[hp,decide_true,and_true,true_and];omega
    ·simp only[hp,decide_true];constructor
     ·intro x;omega
     ·intro x;simp at x
   ·rw[if_neg hp]
    rcases hs with ⟨rfl,rfl⟩|⟨rfl,rfl⟩
    ·simp only[hp,decide_false];constructor
     ·intro x;omega
     ·intro x;simp at x
    ·simp only[hp,decide_false,and_true,true_and];omega
  unfold cH MQ
  rw[Int.toNat_of_nonneg hg]
  have hi:(sd r.start r.steps seg k).idx.toNat=(r.steps.getD k cX).rule.toNat:=rfl
  rw[hi]
  show(if gg p.rules.length fire J 0 (sd r.start r.steps seg k)/\msg∈(cQ p (r.steps.getD k cX)).send then(1:Int) else 0)=_
  by_cases h1:k<m
  ·rw[if_pos h1]
   by_cases h3:decide ((r.steps.getD k cX).process<r.start.correct)=b/\msg∈(cQ p (r.steps.getD k cX)).send
   ·rw[if_pos ⟨hf.2 ⟨h1,h3.1⟩,h3.2⟩,if_pos h3]
   ·rw[if_neg (fun h=>h3 ⟨(hf.1 h.1).2,h.2⟩),if_neg h3]
  ·rw[if_neg h1,if_neg (fun h=>h1 (hf.1 h.1).1)]
 rw[e1,e2]
 omega
end
end
section
set_option maxRecDepth 100000
set_option maxHeartbeats 4000000
theorem Dx {a:Co} {v0:Vb}:∀{l:List Vb},l.Nodup->v0∈l->cg (fun v=>if v=v0 then 1 else 0) a l=a v0
 |[],_,h=>by cases h
 |v::l,hn,h=>by
  obtain⟨hv,hn⟩:=List.nodup_cons.1 hn
  rw[cg]
  by_cases e:v=v0
  ·subst e
   rw[if_pos rfl,eK fun x hx=>if_neg fun(e2:x=v)=>hv (e2▸hx)]
   omega
  ·rcases List.mem_cons.1 h with h|h
   ·exact absurd h.symm e
   ·rw[if_neg e,Dx hn h];omega
theorem IV {c a:Co} {v0:Vb} {k:Int} {l:List Vb} (hn:l.Nodup) (h:v0∈l):cg (eo c v0 k) a l=cg c a l+k*a v0:=by
 have e:eo c v0 k=cB c k (fun v=>if v=v0 then 1 else 0):=by
  funext v
  unfold eo cB
  by_cases e:v=v0<;>simp[e]
 rw[e,gj,Dx hn h]
theorem IW (a:Co) (l:List Vb):cg zC a l=0:=eK fun _ _=>rfl
section
variable {p:ap} {q:aJ} {s:aN} {r:Rn} {sch seg:List Int}
theorem Sl (s:aN) (r:Rn) (seg:List Int):uO s r seg ⟨0,0,0⟩=s.n:=by
 rw[uO,si (by decide)];simp[BU]
theorem Sm (s:aN) (r:Rn) (seg:List Int):uO s r seg ⟨1,0,0⟩=s.t:=by
 rw[uO,si (by decide)];simp[BU]
theorem QV (s:aN) (r:Rn) (seg:List Int):uO s r seg ⟨2,0,0⟩=s.f:=by
 rw[uO,si (by decide)];simp[BU]
theorem IX (l:l7):cg (gt l) (uO s r seg) (ao p q sch)=l.n*s.n+l.t*s.t+l.f*s.f:=by
 rw[BP,Sl,Sm,QV]
theorem O7 (hk:nU p q s r sch seg):0<=r.start.correct/\r.start.correct=s.n-s.f/\r.start.correct<=r.start.states.length/\(lx p->(r.start.states.length:Int)=s.n):=by
 have a:=hk.rdy.vc.cor
 have b:=hk.rdy.vc.len
 have c:=hk.rdy.sz
 unfold iy at b
 unfold lx
 split at b<;>omega
theorem IY (hk:nU p q s r sch seg) {m:Nat} (hm:m<=r.steps.length):fp p s (uP p r m):=pS hk.rdy hk.run m hm
theorem IZ (hk:nU p q s r sch seg) {m:Nat} (hm:m<=r.steps.length) (hf:¬lx p) (j:Nat):(uP p r m).faulty.getD j 0=0:=by
 have h:=(IY hk hm).vc.fau
 have e:Bh p=0:=by unfold Bh;exact if_neg hf
 rw[e] at h
 by_cases hj:j<(uP p r m).faulty.length
 ·have:=h j hj;omega
 ·rw[gD,List.getElem?_eq_none (by omega)];rfl
theorem zO {K:Int} (hK:0<=K) (y:Int) {l:List Int}:∀n:Nat,n<=l.length->uN K true y l n=((l.take (min n K.toNat)).count y:Int)
 |0,_=>by simp[uN,gk]
 |n+1,hn=>by
  have ih:=zO hK y (l:=l) n (by omega)
  unfold uN at ih⊢
  rw[gk,ih]
  by_cases h:(n:Int)<K
  ·have e1:min n K.toNat=n:=by omega
   have e2:min (n+1) K.toNat=n+1:=by omega
   have hd:decide ((n:Int)<K)=true:=by simpa using h
   rw[e1,e2,List.take_succ_eq_append_getElem (by omega),List.count_append,List.count_singleton]
   simp only[hd,true_and]
   rw[am 0 (by omega)]
   by_cases e:l[n]=y
   ·simp[e]
   ·simp[e]
  ·have e1:min n K.toNat=K.toNat:=by omega
   have e2:min (n+1) K.toNat=K.toNat:=by omega
   have hd:decide ((n:Int)<K)=false:=by simpa using h
   rw[e1,e2,if_neg (fun hh=>by rw[hd] at hh;simp at hh)]
   omega
theorem O8 (hk:nU p q s r sch seg):(uP p r r.steps.length).correct=r.start.correct/\(uP p r r.steps.length).states.length=r.start.states.length:=xJ hk.rdy hk.run (Nat.le_refl _)
end
end
section
set_option maxRecDepth 100000
set_option maxHeartbeats 4000000
section
variable {p:ap} {q:aJ} {s:aN} {r:Rn} {sch seg:List Int}
end
end
end Go.Proofs.YtekmminpfhacpaaGreatDoor
