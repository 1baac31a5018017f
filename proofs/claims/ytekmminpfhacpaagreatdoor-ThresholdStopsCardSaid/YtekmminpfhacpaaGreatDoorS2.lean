import Derived.Test.YtekmminpfhacpaaGreatDoorS1
set_option linter.unusedVariables false
set_option linter.unusedSimpArgs false
namespace Go.Proofs.YtekmminpfhacpaaGreatDoor
section
set_option maxRecDepth 100000
set_option maxHeartbeats 16000000
theorem DR {p:an} {s:aC} {c:ay} {x:cj} (h:dk p s c) (he:iZ p s c x true):iZ p s c x false:=by
 obtain⟨hin,h1,h2,h3⟩:=he
 refine⟨hin,h1,h2,?_⟩
 have hR:=cG h.val (i:=x.rule.toNat) (by omega)
 generalize p.rules.getD x.rule.toNat aq=r at h3 hR⊢
 unfold pz at h3⊢
 by_cases k2:r.kind=2\/r.kind=5
 ·rw[if_pos k2] at h3⊢;exact h3
 rw[if_neg k2] at h3⊢
 refine⟨h3.1,?_⟩
 have h4:=h3.2
 by_cases k1:r.kind=1
 ·rw[if_pos k1] at h4⊢
  refine⟨fun j hj=>?_,h4.2⟩
  have hk:=hR.kin
  unfold cu at hk
  rw[if_pos k1] at hk
  have hg:=kD (bG hk (aZ p.messages.length r.guards) (by simp)) j hj
  have ha:=h4.1 j hj
  unfold lB at ha⊢
  generalize r.guards.getD j aA=g at hg ha⊢
  have hf:0<=c.faulty.getD g.message.toNat 0:=by
   by_cases hlt:g.message.toNat<c.faulty.length
   ·exact(h.vc.fau _ hlt).1
   ·rw[gD,List.getElem?_eq_none (by omega)];exact Int.le_refl _
  have hs:=h.sz
  have hle:lz p s c g.message true<=lz p s c g.message false:=by
   simp only[lz]
   (repeat' split)<;>omega
  have:=Int.mul_le_mul_of_nonneg_left hle (show 0<=g.coef by omega)
  omega
 ·rw[if_neg k1] at h4⊢;exact h4
theorem Hy {p:an} {s:aC} {c:ay} {r i:Nat} (h:dk p s c) (ht:c9 p) (hf:nk p s c (r:Int) (i:Int)):iZ p s c ⟨(r:Int),(i:Int),-1⟩ false:=by
 obtain⟨_,k,_,he⟩:=hf
 have he2:=DR h he
 have e:((k:Int)-1)=-1:=by
  obtain⟨⟨⟨h1,h2⟩,_⟩,_,_,h5⟩:=he2
  dsimp only at h1 h2 h5
  have hk:=ht.2.2 r (by omega)
  rw[tN] at h5
  unfold pz at h5
  rw[if_neg (by have:=hk.1;omega)] at h5
  exact h5.1
 rw[e] at he2
 exact he2
theorem w5 {p:an} {s:aC} (ht:c9 p):∀{xs:List cj} {c:ay},dk p s c->bN p s c xs->iv c.states+xs.length<=(p.states.length:Int)*io p s
 |[],c,h,_=>by
  have:=vM (l:=c.states) (n:=p.states.length) fun x hx=>by
   obtain⟨i,hi,e⟩:=List.getElem_of_mem hx
   have:=h.vc.sta i hi
   rwa [au 0 hi,e] at this
  rw[h.vc.len] at this
  simpa using this.2
 |x::xs,c,h,⟨h1,h2,h3⟩=>by
  have a:=w5 ht (h.next h1 h2) h3
  have b:=r4 ht h1
  rw[List.length_cons]
  unfold cN at a b
  omega
theorem DS {p:an} {s:aC} (ht:c9 p) {xs:List cj} {c:ay} (h:dk p s c) (hr:bN p s c xs):(xs.length:Int)<=c.states.length*(p.states.length:Int):=by
 have a:=w5 ht h hr
 have b:=(gT h).1
 rw[h.vc.len,Int.mul_comm]
 omega
theorem w6 {p:an} {s:aC}:∀{xs:List cj} {c:ay} {b:Int},dk p s c->bN p s c xs->(∀j,0<=c.sent.getD j 0/\c.sent.getD j 0<=b)->∀j,0<=((cE p c xs).getD xs.length aX).sent.getD j 0/\((cE p c xs).getD xs.length aX).sent.getD j 0<=b+60*xs.length
 |[],c,b,_,_,hb=>fun j=>by
  have:=hb j
  show 0<=c.sent.getD j 0/\c.sent.getD j 0<=b+60*0
  omega
 |x::xs,c,b,h,⟨h1,h2,h3⟩,hb=>fun j=>by
  have hn:dk p s (d9 c (cN p x) x):=h.next h1 h2
  have hB:(cN p x).send.length<=60:=by
   have:=dh (cQ h.big (j:=x.rule.toNat) (by have:=h1.1.1;omega))
   unfold cN
   omega
  have hb2:∀j,0<=(d9 c (cN p x) x).sent.getD j 0/\(d9 c (cN p x) x).sent.getD j 0<=b+60:=fun j=>by
   unfold d9
   dsimp only
   split
   ·have:=fV (cN p x).send c.sent b hb j
    omega
   ·have:=hb j
    omega
  have:=w6 hn h3 hb2 j
  rw[List.length_cons]
  show 0<=((cE p (d9 c (cN p x) x) xs).getD xs.length aX).sent.getD j 0/\((cE p (d9 c (cN p x) x) xs).getD xs.length aX).sent.getD j 0<=b+60*((xs.length+1:Nat):Int)
  omega
theorem BN {p:an} {q:aE} {s:aC} {c:ay} (h:um p q s c) (j:Nat):0<=c.sent.getD j 0/\c.sent.getD j 0<=0:=by
 by_cases hj:j<c.sent.length
 ·have:=(h.2.2.1 j hj).1
  omega
 ·rw[gD,List.getElem?_eq_none (by omega)]
  exact⟨by decide,by decide⟩
theorem BO {p:an} {q:aE} {s:aC} {c:ay} {xs:List cj} (ht:c9 p) (h:dk p s c) (hi:um p q s c) (hr:bN p s c xs) (hl:xs.length<=1000) {r i:Nat} (hf:nk p s ((cE p c xs).getD xs.length aX) (r:Int) (i:Int)):
  bN p s c (xs++[⟨(r:Int),(i:Int),-1⟩]):=by
 have hd:=i6 h hr xs.length (Nat.le_refl _)
 have he:=Hy hd ht hf
 have hs:=w6 h hr (BN hi)
 have hB:=dh (cQ h.big (j:=r) (by have:=he.1.1;dsimp only at this;omega))
 refine j7.2 ⟨hr,he,?_,trivial⟩
 unfold kq cN
 dsimp only
 rw[if_pos hf.1,tN]
 exact FZ (fun j=>⟨(hs j).1,by have:=(hs j).2;omega⟩) (by omega)
theorem BP {p:an} {q:aE} {s:aC} {c:ay} {x:cj} (ht:c9 p) (hk:q.kind=2) (hg:g6 p q) (he:iZ p s c x false) (h:jD q c):jD q (d9 c (cN p x) x):=by
 obtain⟨⟨⟨r1,r2⟩,⟨q1,q2⟩⟩,hs,_,_⟩:=he
 have hri:=ht.2.2 x.rule.toNat (by omega)
 intro j hj
 have hj':(j:Int)<c.correct:=hj
 have a:=h j hj'
 rw[qF (show(cN p x).kind=1 from hri.1) ⟨q1,q2⟩,b8]
 split
 ·rename_i e
  refine hg hk x.rule.toNat (by omega) ?_
  rw[<-hs,e.1]
  exact a
 ·exact a
theorem w7 {p:an} {q:aE} {s:aC} (ht:c9 p) (hk:q.kind=2) (hg:g6 p q):∀{xs:List cj} {c:ay},bN p s c xs->(∃d∈cE p c xs,jD q d)->jD q ((cE p c xs).getD xs.length aX)
 |[],c,_,⟨d,hd,h⟩=>by
  have:d=c:=List.mem_singleton.1 hd
  subst this
  exact h
 |x::xs,c,⟨h1,h2,h3⟩,⟨d,hd,h⟩=>by
  have hex:∃d∈cE p (d9 c (cN p x) x) xs,jD q d:=by
   rcases List.mem_cons.1 hd with rfl|hd
   ·exact⟨_,lT,BP ht hk hg h1 h⟩
   ·exact⟨d,hd,h⟩
  have:=w7 (c:=d9 c (cN p x) x) (xs:=xs) ht hk hg h3 hex
  exact this
theorem BQ {p:an} {q:aE} {s:aC} {c:ay} {xs:List cj} (ht:c9 p) (hz:lQ p q s=0) (hk:q.kind=2) (hg:g6 p q) (h:dk p s c) (hi:um p q s c) (hr:bN p s c xs) (hs:ym p s ((cE p c xs).getD xs.length aX)):
  DJ p q s (jD q) ⟨c,xs,[]⟩↔¬jD q ((cE p c xs).getD xs.length aX):=by
 have hd:=i6 h hr xs.length (Nat.le_refl _)
 have hm:mD p ⟨c,xs,[]⟩=(cE p c xs).getD xs.length aX:=rfl
 constructor
 ·rintro⟨_,_,_,_,h5,_⟩ hy
  exact h5 _ (iw aX (by rw[fm];exact Nat.lt_succ_self _)) hy
 ·intro hn
  refine⟨hz,hk,hi,hr,fun d hdm hy=>hn (w7 ht hk hg hr ⟨d,hdm,hy⟩),trivial,rfl,?_,?_⟩
  ·rw[hm]
   intro d hdm
   have:d=(cE p c xs).getD xs.length aX:=List.mem_singleton.1 hdm
   subst this
   exact hn
  ·rw[hm]
   intro r i hr hi
   refine .inr ⟨_,lT,hs r hr i ?_⟩
   have h1:=hd.vc.len
   have h2:=hd.sz
   unfold io at h1
   split at h1<;>omega
set_option maxHeartbeats 4000000
section
variable {p:an} {s:aC}
variable {t5 t6:Nat->Int->Int}
end
end
section
set_option maxRecDepth 100000
set_option maxHeartbeats 4000000
section
variable {p:an} {q:aE} {sch x:List Int} {number:Int}
end
end
section
set_option maxRecDepth 100000
set_option maxHeartbeats 4000000
section
variable {p:an} {q:aE} {sch x:List Int} {number:Int}
end
end
end Go.Proofs.YtekmminpfhacpaaGreatDoor
