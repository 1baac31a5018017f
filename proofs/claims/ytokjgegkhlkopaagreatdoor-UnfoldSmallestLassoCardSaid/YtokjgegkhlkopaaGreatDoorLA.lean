import Derived.Test.YtokjgegkhlkopaaGreatDoorMG
set_option linter.unusedVariables false
set_option linter.unusedSimpArgs false
namespace Go.Proofs.YtokjgegkhlkopaaGreatDoor
section
inductive Rc (E:Nat->List Nat):Nat->Nat->Prop
 |refl (x):Rc E x x
 |step {x y z}:y∈E x->Rc E y z->Rc E x z
theorem Rc.trans {E:Nat->List Nat} {x y z} (h:Rc E x y) (k:Rc E y z):Rc E x z:=by
 induction h with
 |refl=>exact k
 |step e _ ih=>exact .step e (ih k)
theorem Rc.edge {E:Nat->List Nat} {x y} (h:y∈E x):Rc E x y:=.step h (.refl y)
theorem Rc.stay {E:Nat->List Nat} {A B:Nat->Prop} (ha:∀x,A x->∀y∈E x,A y\/B y) (hb:∀x,B x->∀y∈E x,B y) {x y}
  (h:Rc E x y):(A x\/B x->A y\/B y)/\(B x->B y):=by
 induction h with
 |refl=>exact⟨id,id⟩
 |step e _ ih=>
  refine⟨fun k=>ih.1 ?_,fun k=>ih.2 (hb _ k _ e)⟩
  rcases k with k|k
  ·exact ha _ k _ e
  ·exact .inr (hb _ k _ e)
def cQ {α} (f:Nat->α) (i:Nat) (v:α):Nat->α:=fun j=>if j=i then v else f j
theorem bJ {α} (f:Nat->α) (i v):cQ f i v i=v:=if_pos rfl
theorem bq {α} (f:Nat->α) {i j} (v) (h:j≠i):cQ f i v j=f j:=if_neg h
structure TS where
 ix:Nat->Nat
 lo:Nat->Nat
 pt:Nat->Option Nat
 st:List Nat
 ct:Nat
 inn:List (List Nat)
def gq (i:Nat) (s:TS):TS:={s with ct:=s.ct+1,ix:=cQ s.ix i (s.ct+1),lo:=cQ s.lo i (s.ct+1),st:=i::s.st}
def oq (i v:Nat) (s:TS):TS:={s with lo:=cQ s.lo i (min (s.lo i) v)}
def pc (i:Nat):List Nat->List Nat
 |[]=>[]
 |x::l=>if x=i then[x] else x::pc i l
def lR (i:Nat):List Nat->List Nat
 |[]=>[]
 |x::l=>if x=i then l else lR i l
def pQ (i:Nat) (s:TS):TS:={s with st:=lR i s.st,pt:=fun x=>if x∈pc i s.st then some s.inn.length else s.pt x,inn:=s.inn++[pc i s.st]}
def dG (i:Nat) (s:TS):TS:=if s.lo i=s.ix i then pQ i s else s
inductive Tj (E:Nat->List Nat):Nat->List Nat->TS->TS->Prop
 |nil {i s}:Tj E i [] s s
 |white {i y ys s s1 s3}:s.ix y=0->Tj E y (E y) (gq y s) s1->Tj E i ys (oq i ((dG y s1).lo y) (dG y s1)) s3->Tj E i (y::ys) s s3
 |stack {i y ys s s3}:s.ix y≠0->s.pt y=none->Tj E i ys (oq i (s.ix y) s) s3->Tj E i (y::ys) s s3
 |part {i y ys s s3}:s.ix y≠0->s.pt y≠none->Tj E i ys s s3->Tj E i (y::ys) s s3
theorem ql {i:Nat} {S}:∀{M:List Nat},i∉M->pc i (M++i::S)=M++[i]/\lR i (M++i::S)=S
 |[],_=>by simp[pc,lR]
 |x::M,h=>by
  have h1:x≠i:=fun e=>h (e▸List.mem_cons_self ..)
  have:=ql (S:=S) (M:=M) (fun e=>h (List.mem_cons_of_mem _ e))
  simp[pc,lR,h1,this]
structure F1 (E:Nat->List Nat) (s:TS):Prop where
 so:s.st.Pairwise fun a b=>s.ix b<s.ix a
 on:∀x∈s.st,s.ix x≠0/\s.pt x=none
 ct:∀x,s.ix x<=s.ct
 vi:∀x,s.ix x≠0->x∈s.st\/s.pt x≠none
 pv:∀x,s.pt x≠none->s.ix x≠0
 cl:∀x,s.pt x≠none->∀y∈E x,s.pt y≠none
 mu:∀x y,s.pt x≠none->s.pt x=s.pt y->Rc E x y
 mx:∀x y,s.pt x≠none->Rc E x y->Rc E y x->s.pt y=s.pt x
 me:∀k x,s.pt x=some k↔∃l,s.inn[k]? =some l/\x∈l
 ne:∀l∈s.inn,l≠[]
structure mn (E:Nat->List Nat) (i:Nat) (S M ds:List Nat) (s:TS):Prop where
 g:F1 E s
 st:s.st=M++i::S
 l1:∀x∈M,Rc E i x
 l2:∀x∈M,∀y∈E x,s.ix y≠0
 l2i:∀y∈ds,s.ix y≠0
 l3:s.lo i=s.ix i\/∃z∈S,s.ix z=s.lo i/\Rc E i z
 l4:∀x∈M,∀y∈E x,y∈S->s.lo i<=s.ix y
 l4i:∀y∈ds,y∈S->s.lo i<=s.ix y
 l5:∀x∈M,Rc E x i\/∃z∈S,Rc E x z
structure F3 (i:Nat) (s t:TS):Prop where
 ix:∀x,s.ix x≠0->t.ix x=s.ix x
 lo:∀x,s.ix x≠0->x≠i->t.lo x=s.lo x
theorem F3.trans {i s t u} (h:F3 i s t) (k:F3 i t u):F3 i s u where
 ix x hx:=by rw[k.ix x (by rw[h.ix x hx];exact hx),h.ix x hx]
 lo x hx hi:=by rw[k.lo x (by rw[h.ix x hx];exact hx) hi,h.lo x hx hi]
section
variable {E:Nat->List Nat} {i:Nat} {S M ds:List Nat} {s:TS}
theorem mn.lt (h:mn E i S M ds s):∀z∈S,s.ix z<s.ix i:=by
 intro z hz
 have:=h.g.so
 rw[h.st,List.pairwise_append] at this
 exact(List.pairwise_cons.1 this.2.1).1 z hz
theorem mn.gt (h:mn E i S M ds s):∀x∈M,s.ix i<s.ix x:=by
 intro x hx
 have:=h.g.so
 rw[h.st,List.pairwise_append] at this
 exact this.2.2 x hx i (List.mem_cons_self ..)
theorem mn.le (h:mn E i S M ds s):s.lo i<=s.ix i:=by
 rcases h.l3 with e|⟨z,hz,e,_⟩
 ·omega
 ·have:=h.lt z hz;omega
theorem mn.iM (h:mn E i S M ds s):i∉M:=fun k=>absurd (h.gt i k) (Nat.lt_irrefl _)
theorem mn.enter (h:F1 E s) (hy:s.ix i=0):mn E i s.st [] [] (gq i s) where
 g:=by
  have hp:s.pt i=none:=Classical.byContradiction fun k=>h.pv i k hy
  have hn:i∉s.st:=fun k=>(h.on i k).1 hy
  have hx:∀x,x≠i->(gq i s).ix x=s.ix x:=fun x k=>bq _ _ k
  have hi:(gq i s).ix i=s.ct+1:=bJ ..
  refine{so:=?_,on:=?_,ct:=?_,vi:=?_,pv:=?_,cl:=h.cl,mu:=h.mu,mx:=h.mx,me:=h.me,ne:=h.ne}
  ·refine List.pairwise_cons.2 ⟨fun z hz=>?_,?_⟩
   ·rw[hi,hx z fun e=>hn (e▸hz)];have:=h.ct z;omega
   ·refine h.so.imp_of_mem fun{a b} ha hb k=>?_
    rw[hx a fun e=>hn (e▸ha),hx b fun e=>hn (e▸hb)];exact k
  ·intro x hm
   rcases List.mem_cons.1 hm with e|hm
   ·subst e;exact⟨by rw[hi];omega,hp⟩
   ·rw[hx x fun e=>hn (e▸hm)];exact h.on x hm
  ·intro x
   by_cases e:x=i
   ·subst e;rw[hi];exact Nat.le_refl _
   ·rw[hx x e];have:=h.ct x;show _<=s.ct+1;omega
  ·intro x k
   by_cases e:x=i
   ·subst e;exact .inl (List.mem_cons_self ..)
   ·rw[hx x e] at k
    rcases h.vi x k with k|k
    ·exact .inl (List.mem_cons_of_mem _ k)
    ·exact .inr k
  ·intro x k
   by_cases e:x=i
   ·subst e;rw[hi];omega
   ·rw[hx x e];exact h.pv x k
 st:=rfl
 l1 _ h:=nomatch h
 l2 _ h:=nomatch h
 l2i _ h:=nomatch h
 l3:=.inl (by show cQ s.lo i (s.ct+1) i=cQ s.ix i (s.ct+1) i;rw[bJ,bJ])
 l4 _ h:=nomatch h
 l4i _ h:=nomatch h
 l5 _ h:=nomatch h
theorem mn.reach (h:mn E i S M (E i) s) (hl:s.lo i=s.ix i):∀x∈M++[i],Rc E x i:=by
 intro x hx
 rcases List.mem_append.1 hx with hx|hx
 ·rcases h.l5 x hx with k|⟨z,hz,k⟩
  ·exact k
  ·exfalso
   have ha:∀u,u∈M++[i]->∀y∈E u,y∈M++[i]\/s.pt y≠none:=by
    intro u hu y hy
    have hv:s.ix y≠0/\(y∈S->s.lo i<=s.ix y):=by
     rcases List.mem_append.1 hu with hu|hu
     ·exact⟨h.l2 u hu y hy,h.l4 u hu y hy⟩
     ·obtain rfl:=List.mem_singleton.1 hu
      exact⟨h.l2i y hy,h.l4i y hy⟩
    rcases h.g.vi y hv.1 with m|m
    ·rw[h.st] at m
     rcases List.mem_append.1 m with m|m
     ·exact .inl (List.mem_append_left _ m)
     ·rcases List.mem_cons.1 m with m|m
      ·exact .inl (by simp[m])
      ·have:=hv.2 m;have:=h.lt y m;omega
    ·exact .inr m
   rcases((Rc.stay (A:=fun u=>u∈M++[i]) (B:=fun u=>s.pt u≠none) ha h.g.cl k).1 (.inl (List.mem_append_left _ hx))) with m|m
   ·have:=h.lt z hz
    rcases List.mem_append.1 m with m|m
    ·have:=h.gt z m;omega
    ·obtain rfl:=List.mem_singleton.1 m;omega
   ·exact m (h.g.on z (by rw[h.st];simp[hz])).2
 ·obtain rfl:=List.mem_singleton.1 hx
  exact .refl _
theorem mn.pop (h:mn E i S M (E i) s) (hl:s.lo i=s.ix i):F1 E (pQ i s)/\(pQ i s).st=S:=by
 have hc:=ql (S:=S) h.iM
 rw[<-h.st] at hc
 have hr:=h.reach hl
 have hr':∀x∈M++[i],Rc E i x:=by
  intro x hx
  rcases List.mem_append.1 hx with hx|hx
  ·exact h.l1 x hx
  ·obtain rfl:=List.mem_singleton.1 hx;exact .refl _
 have hs:(pQ i s).st=S:=hc.2
 have hp:∀x,(pQ i s).pt x=if x∈M++[i] then some s.inn.length else s.pt x:=by
  intro x;show(if x∈pc i s.st then _ else _)=_;rw[hc.1]
 have hin:∀x∈M++[i],s.ix x≠0/\s.pt x=none:=fun x hx=>h.g.on x (by
  rw[h.st];rcases List.mem_append.1 hx with hx|hx
  ·exact List.mem_append_left _ hx
  ·obtain rfl:=List.mem_singleton.1 hx;simp)
 have hnS:∀x∈S,x∉M++[i]:=by
  intro x hx hm
  have:=h.lt x hx
  rcases List.mem_append.1 hm with m|m
  ·have:=h.gt x m;omega
  ·obtain rfl:=List.mem_singleton.1 m;omega
 have hb:∀k x,s.pt x=some k->k<s.inn.length:=by
  intro k x hk
  obtain⟨l,hl,_⟩:=(h.g.me k x).1 hk
  exact(List.getElem?_eq_some_iff.1 hl).1
 have hcl:∀x,(pQ i s).pt x≠none->∀y∈E x,(pQ i s).pt y≠none:=by
  intro x hx y hy
  rw[hp] at hx⊢
  split
  ·simp
  ·rename_i hny
   split at hx
   ·rename_i hm
    have hv:s.ix y≠0/\(y∈S->s.lo i<=s.ix y):=by
     rcases List.mem_append.1 hm with hu|hu
     ·exact⟨h.l2 x hu y hy,h.l4 x hu y hy⟩
     ·obtain rfl:=List.mem_singleton.1 hu
      exact⟨h.l2i y hy,h.l4i y hy⟩
    rcases h.g.vi y hv.1 with m|m
    ·rw[h.st] at m
     rcases List.mem_append.1 m with m|m
     ·exact absurd (List.mem_append_left _ m) hny
     ·rcases List.mem_cons.1 m with m|m
      ·exact absurd (by simp[m]) hny
      ·have:=hv.2 m;have:=h.lt y m;omega
    ·exact m
   ·exact h.g.cl x hx y hy
 have hold:∀x y,s.pt x≠none->Rc E x y->s.pt y≠none:=fun x y hx k=>
  (Rc.stay (A:=fun _=>False) (B:=fun u=>s.pt u≠none) (fun _ k=>k.elim) h.g.cl k).2 hx
 refine⟨?_,hs⟩
 refine{so:=?_,on:=?_,ct:=h.g.ct,vi:=?_,pv:=?_,cl:=hcl,mu:=?_,mx:=?_,me:=?_,ne:=?_}
 ·rw[hs]
  have:=h.g.so
  rw[h.st,List.pairwise_append] at this
  exact(List.pairwise_cons.1 this.2.1).2
 ·rw[hs]
  intro x hx
  have:=h.g.on x (by rw[h.st];simp[hx])
  exact⟨this.1,by rw[hp,if_neg (hnS x hx)];exact this.2⟩
 ·intro x hx
  rw[hs,hp]
  rcases h.g.vi x hx with m|m
  ·rw[h.st] at m
   rcases List.mem_append.1 m with m|m
   ·right;rw[if_pos (List.mem_append_left _ m)];simp
   ·rcases List.mem_cons.1 m with m|m
    ·right;rw[if_pos (by simp[m])];simp
    ·exact .inl m
  ·right;split
   ·simp
   ·exact m
 ·intro x hx
  rw[hp] at hx
  split at hx
  ·exact(hin x (by assumption)).1
  ·exact h.g.pv x hx
 ·intro x y hx e
  rw[hp] at hx
  rw[hp,hp] at e
  split at e
  ·rename_i hm
   split at e
   ·rename_i hm'
    exact(hr x hm).trans (hr' y hm')
   ·exact absurd (hb _ y e.symm) (Nat.lt_irrefl _)
  ·split at e
   ·exact absurd (hb _ x e) (Nat.lt_irrefl _)
   ·rename_i hm _
    rw[if_neg hm] at hx
    exact h.g.mu x y hx e
 ·intro x y hx k k'
  rw[hp] at hx
  rw[hp,hp]
  split at hx
  ·rename_i hm
   rw[if_pos hm]
   have h1:(pQ i s).pt y≠none:=
    (Rc.stay (A:=fun _=>False) (B:=fun u=>(pQ i s).pt u≠none) (fun _ k=>k.elim) hcl k).2 (by rw[hp,if_pos hm];simp)
   rw[hp] at h1
   split at h1
   ·rw[if_pos (by assumption)]
   ·exact absurd (hin x hm).2 (hold y x h1 k')
  ·rename_i hm
   have h1:=hold x y hx k
   rw[if_neg hm,if_neg fun hm'=>h1 (hin y hm').2]
   exact h.g.mx x y hx k k'
 ·intro k x
  rw[hp]
  show _↔∃l,(s.inn++[pc i s.st])[k]? =some l/\x∈l
  rw[hc.1]
  by_cases hm:x∈M++[i]
  ·rw[if_pos hm]
   constructor
   ·intro e
    obtain rfl:=Option.some.inj e
    exact⟨M++[i],by simp,hm⟩
   ·rintro⟨l,hl,hx⟩
    by_cases hk:k<s.inn.length
    ·rw[List.getElem?_append_left hk] at hl
     have:=(h.g.me k x).2 ⟨l,hl,hx⟩
     rw[(hin x hm).2] at this;cases this
    ·have:=(List.getElem?_eq_some_iff.1 hl).1
     rw[List.length_append,List.length_singleton] at this
     congr 1;omega
  ·rw[if_neg hm,h.g.me]
   constructor
   ·rintro⟨l,hl,hx⟩
    exact⟨l,by rw[List.getElem?_append_left (List.getElem?_eq_some_iff.1 hl).1];exact hl,hx⟩
   ·rintro⟨l,hl,hx⟩
    by_cases hk:k<s.inn.length
    ·rw[List.getElem?_append_left hk] at hl
     exact⟨l,hl,hx⟩
    ·rw[List.getElem?_append_right (by omega)] at hl
     have:=List.getElem?_eq_some_iff.1 hl
     obtain⟨h1,h2⟩:=this
     have:k-s.inn.length=0:=by simp at h1;omega
     simp only[this] at h2
     have h2:M++[i]=l:=h2
     exact absurd (by rw[h2];exact hx) hm
 ·intro l hl
  rcases List.mem_append.1 (show l∈s.inn++[pc i s.st] from hl) with m|m
  ·exact h.g.ne l m
  ·obtain rfl:=List.mem_singleton.1 m
   rw[hc.1];simp
theorem mn.lower {v y ys} (h:mn E i S M ds s) (hE:E i=ds++y::ys) (hy:s.ix y≠0) (hv:y∈S->v<=s.ix y)
  (hz:v<s.ix i->∃z∈S,s.ix z=v/\Rc E i z):mn E i S M (ds++[y]) (oq i v s):=by
 have hlo:(oq i v s).lo i=min (s.lo i) v:=bJ ..
 have hle:=h.le
 refine{g:=⟨h.g.so,h.g.on,h.g.ct,h.g.vi,h.g.pv,h.g.cl,h.g.mu,h.g.mx,h.g.me,h.g.ne⟩,st:=h.st,l1:=h.l1,l2:=h.l2,l2i:=?_,l3:=?_,l4:=?_,l4i:=?_,l5:=h.l5}
 ·intro x hx
  rcases List.mem_append.1 hx with hx|hx
  ·exact h.l2i x hx
  ·obtain rfl:=List.mem_singleton.1 hx;exact hy
 ·rw[hlo]
  by_cases k:s.lo i<=v
  ·rw[Nat.min_eq_left k];exact h.l3
  ·rw[Nat.min_eq_right (by omega)]
   exact .inr (hz (by omega))
 ·intro x hx w hw hS
  rw[hlo];exact Nat.le_trans (Nat.min_le_left ..) (h.l4 x hx w hw hS)
 ·intro x hx hS
  rw[hlo]
  rcases List.mem_append.1 hx with hx|hx
  ·exact Nat.le_trans (Nat.min_le_left ..) (h.l4i x hx hS)
  ·obtain rfl:=List.mem_singleton.1 hx
   exact Nat.le_trans (Nat.min_le_right ..) (hv hS)
end
theorem F3.low {i v s}:F3 i s (oq i v s):=⟨fun _ _=>rfl,fun _ _ h=>bq _ _ h⟩
theorem Tj.goodR {E:Nat->List Nat} {i ys s t} (h:Tj E i ys s t):∀{S M ds rs},E i=ds++(ys++rs)->mn E i S M ds s->
  (∃M',mn E i S M' (ds++ys) t)/\F3 i s t:=by
 induction h with
 |nil=>
  intro S M ds rs hE hL
  exact⟨⟨M,by rw[List.append_nil];exact hL⟩,⟨fun _ _=>rfl,fun _ _ _=>rfl⟩⟩
 |@white i y ys s s1 s3 hw _ _ ih1 ih2=>
  intro S M ds rs hE hL
  have ed:ds++[y]++ys=ds++y::ys:=by simp
  obtain⟨⟨N,hN⟩,f1⟩:=ih1 (ds:=[]) (rs:=[]) (by simp) (mn.enter hL.g hw)
  have hN:mn E y s.st N (E y) s1:=hN
  have hey:y∈E i:=by rw[hE];simp
  have hyi:∀x,s.ix x≠0->x≠y:=fun x hx e=>hx (e▸hw)
  have fi:∀x,s.ix x≠0->s1.ix x=s.ix x:=fun x hx=>by
   have hne:(gq y s).ix x=s.ix x:=bq _ _ (hyi x hx)
   rw[f1.ix x (by rw[hne];exact hx),hne]
  have fl:∀x,s.ix x≠0->s1.lo x=s.lo x:=fun x hx=>by
   have hne:(gq y s).ix x=s.ix x:=bq _ _ (hyi x hx)
   rw[f1.lo x (by rw[hne];exact hx) (hyi x hx)]
   exact bq _ _ (hyi x hx)
  have hii:s.ix i≠0:=(hL.g.on i (by rw[hL.st];simp)).1
  have hon:∀x∈M++i::S,s.ix x≠0:=fun x hx=>(hL.g.on x (by rw[hL.st];exact hx)).1
  have hyo:s1.ix y≠0:=(hN.g.on y (by rw[hN.st];simp)).1
  have f2:F3 i s (dG y s1):=by
   unfold dG;split<;>exact⟨fi,fun x hx _=>fl x hx⟩
  have hS:∀x∈S,s.ix x≠0:=fun x hx=>hon x (by simp[hx])
  have hM:∀x∈M,s.ix x≠0:=fun x hx=>hon x (by simp[hx])
  have key:∃M2,mn E i S M2 (ds++[y]) (oq i ((dG y s1).lo y) (dG y s1)):=by
   have hlt:=hN.lt
   rw[hL.st] at hlt
   by_cases hl:s1.lo y=s1.ix y
   ·have hp:=hN.pop hl
    have e:dG y s1=pQ y s1:=if_pos hl
    rw[e]
    refine⟨M,mn.lower (ys:=ys++rs) ?_ hE hyo ?_ ?_⟩
    ·refine{g:=hp.1,st:=by rw[hp.2,hL.st],l1:=hL.l1,l2:=?_,l2i:=?_,l3:=?_,l4:=?_,l4i:=?_,l5:=hL.l5}
     ·intro x hx w hw'
      show s1.ix w≠0
      rw[fi w (hL.l2 x hx w hw')];exact hL.l2 x hx w hw'
     ·intro w hw'
      show s1.ix w≠0
      rw[fi w (hL.l2i w hw')];exact hL.l2i w hw'
     ·show s1.lo i=s1.ix i\/∃z∈S,s1.ix z=s1.lo i/\Rc E i z
      rw[fl i hii,fi i hii]
      rcases hL.l3 with k|⟨z,hz,k,r⟩
      ·exact .inl k
      ·exact .inr ⟨z,hz,by rw[fi z (hS z hz)];exact k,r⟩
     ·intro x hx w hw' hS'
      show s1.lo i<=s1.ix w
      rw[fl i hii,fi w (hS w hS')];exact hL.l4 x hx w hw' hS'
     ·intro w hw' hS'
      show s1.lo i<=s1.ix w
      rw[fl i hii,fi w (hS w hS')];exact hL.l4i w hw' hS'
    ·intro k
     exact absurd hw (hS y k)
    ·intro k
     have:s1.ix i<s1.ix y:=hlt i (by simp)
     have k:s1.lo y<s1.ix i:=k
     omega
   ·have e:dG y s1=s1:=if_neg hl
    rw[e]
    have hr:∃z∈M++i::S,s1.ix z=s1.lo y/\Rc E y z:=by
     rcases hN.l3 with k|k
     ·exact absurd k hl
     ·rw[hL.st] at k;exact k
    have hst:s1.st=(N++y::M)++i::S:=by rw[hN.st,hL.st];simp
    have hso:∀x∈N++y::M,s1.ix i<s1.ix x:=by
     have:=hN.g.so
     rw[hst,List.pairwise_append] at this
     exact fun x hx=>this.2.2 x hx i (List.mem_cons_self ..)
    obtain⟨z,hz,ez,rz⟩:=hr
    have h5:∀x∈N++y::M,Rc E x i\/∃z∈S,Rc E x z:=by
     have hm:∀z∈M++i::S,∀x,Rc E x z->Rc E x i\/∃z∈S,Rc E x z:=by
      intro z hz x r
      rcases List.mem_append.1 hz with hz|hz
      ·rcases hL.l5 z hz with k|⟨w,hw,k⟩
       ·exact .inl (r.trans k)
       ·exact .inr ⟨w,hw,r.trans k⟩
      ·rcases List.mem_cons.1 hz with hz|hz
       ·subst hz;exact .inl r
       ·exact .inr ⟨z,hz,r⟩
     intro x hx
     rcases List.mem_append.1 hx with hx|hx
     ·rcases hN.l5 x hx with k|⟨w,hw,k⟩
      ·exact hm z hz x (k.trans rz)
      ·rw[hL.st] at hw;exact hm w hw x k
     ·rcases List.mem_cons.1 hx with hx|hx
      ·subst hx;exact hm z hz _ rz
      ·exact hL.l5 x hx
    have h1:∀x∈N++y::M,Rc E i x:=by
     intro x hx
     rcases List.mem_append.1 hx with hx|hx
     ·exact .step hey (hN.l1 x hx)
     ·rcases List.mem_cons.1 hx with hx|hx
      ·subst hx;exact .edge hey
      ·exact hL.l1 x hx
    have h2:∀x∈N++y::M,∀w∈E x,s1.ix w≠0:=by
     intro x hx w hw'
     rcases List.mem_append.1 hx with hx|hx
     ·exact hN.l2 x hx w hw'
     ·rcases List.mem_cons.1 hx with hx|hx
      ·subst hx;exact hN.l2i w hw'
      ·rw[fi w (hL.l2 x hx w hw')];exact hL.l2 x hx w hw'
    have h4:∀x∈N++[y],∀w∈E x,w∈S->s1.lo y<=s1.ix w:=by
     intro x hx w hw' hS'
     have:w∈s.st:=by rw[hL.st];simp[hS']
     rcases List.mem_append.1 hx with hx|hx
     ·exact hN.l4 x hx w hw' this
     ·obtain rfl:=List.mem_singleton.1 hx
      exact hN.l4i w hw' this
    have hlo:(oq i (s1.lo y) s1).lo i=min (s1.lo i) (s1.lo y):=bJ ..
    refine⟨N++y::M,{g:=⟨hN.g.so,hN.g.on,hN.g.ct,hN.g.vi,hN.g.pv,hN.g.cl,hN.g.mu,hN.g.mx,hN.g.me,hN.g.ne⟩,st:=hst,l1:=h1,l2:=h2,l2i:=?_,l3:=?_,l4:=?_,l4i:=?_,l5:=h5}⟩
    ·intro w hw'
     rcases List.mem_append.1 hw' with hw'|hw'
     ·show s1.ix w≠0;rw[fi w (hL.l2i w hw')];exact hL.l2i w hw'
     ·obtain rfl:=List.mem_singleton.1 hw';exact hyo
    ·rw[hlo]
     show _=s1.ix i\/∃z∈S,s1.ix z=_/\Rc E i z
     by_cases k:s1.lo i<=s1.lo y
     ·rw[Nat.min_eq_left k,fl i hii,fi i hii]
      rcases hL.l3 with k|⟨z,hz,k,r⟩
      ·exact .inl k
      ·exact .inr ⟨z,hz,by rw[fi z (hS z hz)];exact k,r⟩
     ·rw[Nat.min_eq_right (by omega)]
      have hle:s1.lo i<=s1.ix i:=by rw[fl i hii,fi i hii];exact hL.le
      rcases List.mem_append.1 hz with hz|hz
      ·have:=hso z (by simp[hz]);omega
      ·rcases List.mem_cons.1 hz with hz|hz
       ·subst hz;omega
       ·exact .inr ⟨z,hz,ez, .step hey rz⟩
    ·intro x hx w hw' hS'
     rw[hlo]
     show _<=s1.ix w
     rcases List.mem_append.1 hx with hx|hx
     ·exact Nat.le_trans (Nat.min_le_right ..) (h4 x (by simp[hx]) w hw' hS')
     ·rcases List.mem_cons.1 hx with hx|hx
      ·subst hx;exact Nat.le_trans (Nat.min_le_right ..) (h4 _ (by simp) w hw' hS')
      ·refine Nat.le_trans (Nat.min_le_left ..) ?_
       rw[fl i hii,fi w (hS w hS')];exact hL.l4 x hx w hw' hS'
    ·intro w hw' hS'
     rw[hlo]
     show _<=s1.ix w
     rcases List.mem_append.1 hw' with hw'|hw'
     ·refine Nat.le_trans (Nat.min_le_left ..) ?_
      rw[fl i hii,fi w (hS w hS')];exact hL.l4i w hw' hS'
     ·obtain rfl:=List.mem_singleton.1 hw'
      exact absurd hw (hS w hS')
  obtain⟨M2,hM2⟩:=key
  obtain⟨r,f3⟩:=ih2 (rs:=rs) (by rw[hE];simp) hM2
  rw[ed] at r
  exact⟨r,(f2.trans F3.low).trans f3⟩
 |@stack i y ys s s3 hy hp _ ih=>
  intro S M ds rs hE hL
  have ed:ds++[y]++ys=ds++y::ys:=by simp
  have hm:y∈s.st:=by
   rcases hL.g.vi y hy with k|k
   ·exact k
   ·exact absurd hp k
  obtain⟨r,f⟩:=ih (rs:=rs) (by rw[hE];simp) (hL.lower (ys:=ys++rs) hE hy (fun _=>Nat.le_refl _) fun k=>by
   rw[hL.st] at hm
   rcases List.mem_append.1 hm with hm|hm
   ·have:=hL.gt y hm;omega
   ·rcases List.mem_cons.1 hm with hm|hm
    ·subst hm;omega
    ·exact⟨y,hm,rfl, .edge (by rw[hE];simp)⟩)
  rw[ed] at r
  exact⟨r,F3.low.trans f⟩
 |@part i y ys s s3 hy hp _ ih=>
  intro S M ds rs hE hL
  have ed:ds++[y]++ys=ds++y::ys:=by simp
  rw[<-ed]
  refine ih (ds:=ds++[y]) (rs:=rs) (by rw[hE];simp) {hL with l2i:=?_,l4i:=?_}
  ·intro x hx
   rcases List.mem_append.1 hx with hx|hx
   ·exact hL.l2i x hx
   ·obtain rfl:=List.mem_singleton.1 hx;exact hy
  ·intro x hx hS
   rcases List.mem_append.1 hx with hx|hx
   ·exact hL.l4i x hx hS
   ·obtain rfl:=List.mem_singleton.1 hx
    exact absurd (hL.g.on x (by rw[hL.st];simp[hS])).2 hp
theorem Tj.good {E:Nat->List Nat} {i ys s t} (h:Tj E i ys s t) {S M ds} (hE:E i=ds++ys) (hL:mn E i S M ds s):(∃M',mn E i S M' (E i) t)/\F3 i s t:=by
 have:=h.goodR (rs:=[]) (by rw[List.append_nil];exact hE) hL
 rw[<-hE] at this
 exact this
theorem Tj.app {E:Nat->List Nat} {i ys zs s t u} (h:Tj E i ys s t) (k:Tj E i zs t u):Tj E i (ys++zs) s u:=by
 induction h with
 |nil=>exact k
 |white a b _ _ ih=>exact .white a b (ih k)
 |stack a b _ ih=>exact .stack a b (ih k)
 |part a b _ ih=>exact .part a b (ih k)
theorem Tj.top {E:Nat->List Nat} {i s t} (hG:F1 E s) (h0:s.st=[]) (hi:s.ix i=0) (h:Tj E i (E i) (gq i s) t):
  F1 E (dG i t)/\(dG i t).st=[]/\(∀x,s.ix x≠0->(dG i t).ix x=s.ix x)/\(dG i t).ix i≠0:=by
 obtain⟨⟨M,hM⟩,f⟩:=h.good (ds:=[]) rfl (mn.enter hG hi)
 have hl:t.lo i=t.ix i:=by
  rcases hM.l3 with k|⟨z,hz,_⟩
  ·exact k
  ·rw[h0] at hz;cases hz
 have e:dG i t=pQ i t:=if_pos hl
 have hp:=hM.pop hl
 rw[e]
 refine⟨hp.1,by rw[hp.2,h0],fun x hx=>?_,(hM.g.on i (by rw[hM.st];simp)).1⟩
 have hne:(gq i s).ix x=s.ix x:=bq _ _ fun e=>hx (e▸hi)
 show t.ix x=_
 rw[f.ix x (by rw[hne];exact hx),hne]
end
section
theorem v4 (i:Nat) (s:TS):(dG i s).ix=s.ix/\(dG i s).lo=s.lo/\(dG i s).ct=s.ct:=by
 unfold dG;split<;>exact⟨rfl,rfl,rfl⟩
def Bm (n:Nat) (s:TS):List Nat:=(List.range n).filter fun x=>s.ix x=0
theorem pe {p q:Nat->Bool}:∀(l:List Nat),(∀x∈l,p x=true->q x=true)->(l.filter p).length<=(l.filter q).length
 |[],_=>Nat.le_refl _
 |a::l,h=>by
  have ih:=pe l fun x hx=>h x (List.mem_cons_of_mem _ hx)
  have ha:=h a List.mem_cons_self
  cases hp:p a with
  |true=>rw[List.filter_cons_of_pos hp,List.filter_cons_of_pos (ha hp)];simp;exact ih
  |false=>
   rw[List.filter_cons_of_neg (by rw[hp];decide)]
   cases hq:q a with
   |true=>rw[List.filter_cons_of_pos hq,List.length_cons];omega
   |false=>rw[List.filter_cons_of_neg (by rw[hq];decide)];exact ih
theorem kL {p:Nat->Bool} {i:Nat}:∀{l:List Nat},l.Nodup->i∈l->p i=true->(l.filter fun x=>p x&&!(x==i)).length+1=(l.filter p).length
 |a::l,hn,hi,hp=>by
  obtain⟨h1,h2⟩:=List.nodup_cons.1 hn
  by_cases e:a=i
  ·subst e
   rw[List.filter_cons_of_neg (by simp),List.filter_cons_of_pos hp,List.length_cons]
   congr 1
   congr 1
   refine List.filter_congr fun x hx=>?_
   have:x≠a:=fun e=>h1 (e▸hx)
   simp[this]
  ·have hi':i∈l:=by
    rcases List.mem_cons.1 hi with k|k
    ·exact absurd k.symm e
    ·exact k
   have ih:=kL h2 hi' hp
   cases hq:p a with
   |true=>
    rw[List.filter_cons_of_pos (by simp[hq,e]),List.filter_cons_of_pos hq,List.length_cons,List.length_cons]
    omega
   |false=>
    rw[List.filter_cons_of_neg (by simp[hq]),List.filter_cons_of_neg (by rw[hq];decide)]
    exact ih
theorem v5 {n i:Nat} {s:TS} (hi:i<n) (h:s.ix i=0):(Bm n (gq i s)).length+1=(Bm n s).length:=by
 have:=kL (p:=fun x=>decide (s.ix x=0)) (l:=List.range n) List.nodup_range (List.mem_range.2 hi) (by simp[h])
 rw[Bm,Bm,<-this]
 congr 2
 refine List.filter_congr fun x _=>?_
 show decide (cQ s.ix i (s.ct+1) x=0)=_
 by_cases e:x=i
 ·subst e;rw[bJ];simp
 ·rw[bq _ _ e];simp[e]
structure Bn (n:Nat) (s:TS):Prop where
 ct:s.ct+(Bm n s).length=n
 st:∀x∈s.st,x<n
 ix:∀x,s.ix x<=s.ct
 lo:∀x,s.lo x<=s.ct
theorem Bn.ent {n i s} (h:Bn n s) (hi:i<n) (h0:s.ix i=0):Bn n (gq i s) where
 ct:=by have:=v5 hi h0;have:=h.ct;show s.ct+1+_=n;omega
 st x hx:=by
  rcases List.mem_cons.1 hx with rfl|hx
  ·exact hi
  ·exact h.st x hx
 ix x:=by
  show cQ s.ix i (s.ct+1) x<=s.ct+1
  by_cases e:x=i
  ·subst e;rw[bJ];exact Nat.le_refl _
  ·rw[bq _ _ e];have:=h.ix x;omega
 lo x:=by
  show cQ s.lo i (s.ct+1) x<=s.ct+1
  by_cases e:x=i
  ·subst e;rw[bJ];exact Nat.le_refl _
  ·rw[bq _ _ e];have:=h.lo x;omega
theorem Bn.low {n i v s} (h:Bn n s):Bn n (oq i v s) where
 ct:=h.ct
 st:=h.st
 ix:=h.ix
 lo x:=by
  show cQ s.lo i (min (s.lo i) v) x<=s.ct
  by_cases e:x=i
  ·subst e;rw[bJ];exact Nat.le_trans (Nat.min_le_left ..) (h.lo x)
  ·rw[bq _ _ e];exact h.lo x
theorem uv {i x:Nat}:∀{l:List Nat},x∈lR i l->x∈l
 |[],h=>h
 |a::l,h=>by
  rw[lR] at h
  split at h
  ·exact List.mem_cons_of_mem _ h
  ·exact List.mem_cons_of_mem _ (uv h)
theorem Bn.lea {n i s} (h:Bn n s):Bn n (dG i s):=by
 unfold dG
 split
 ·exact⟨h.ct,fun x hx=>h.st x (uv hx),h.ix,h.lo⟩
 ·exact h
theorem Tj.num {E:Nat->List Nat} {n i ys s t} (h:Tj E i ys s t):(∀x,∀y∈E x,y<n)->(∀y∈ys,y<n)->Bn n s->
  Bn n t/\(∀x,s.ix x≠0->t.ix x≠0)/\(Bm n t).length<=(Bm n s).length:=by
 have sub:∀{s t:TS},(∀x,s.ix x≠0->t.ix x≠0)->(Bm n t).length<=(Bm n s).length:=fun{s t} h=>
  pe _ fun x _ hx=>by
   have hx:t.ix x=0:=by simpa using hx
   have:s.ix x=0:=Classical.byContradiction fun k=>h x k hx
   simpa using this
 induction h with
 |nil=>exact fun _ _ g=>⟨g,fun _ h=>h,Nat.le_refl _⟩
 |@white i y ys s s1 s3 hw _ _ ih1 ih2=>
  intro hE hy g
  have a:=ih1 hE (hE y) (g.ent (hy y List.mem_cons_self) hw)
  have b:=ih2 hE (fun z hz=>hy z (List.mem_cons_of_mem _ hz)) a.1.lea.low
  have v:∀x,s.ix x≠0->s3.ix x≠0:=fun x hx=>b.2.1 x (by
   show(dG y s1).ix x≠0
   rw[(v4 y s1).1]
   refine a.2.1 x ?_
   show cQ s.ix y (s.ct+1) x≠0
   rw[bq _ _ fun e:x=y=>hx (by rw[e];exact hw)]
   exact hx)
  exact⟨b.1,v,sub v⟩
 |stack _ _ _ ih=>exact fun hE hy g=>ih hE (fun z hz=>hy z (List.mem_cons_of_mem _ hz)) g.low
 |part _ _ _ ih=>exact fun hE hy g=>ih hE (fun z hz=>hy z (List.mem_cons_of_mem _ hz)) g
def kV (n:Nat) (f:Nat->Nat):List Int:=(List.range n).map fun x=>(f x:Int)
def eW (n:Nat) (f:Nat->Option Nat):List Int:=(List.range n).map fun x=>match f x with
 |some k=>(k:Int)
 |none=>-1
def bM (l:List Nat):List Int:=l.map fun x:Nat=>(x:Int)
theorem v6 {β:Type} (f:Nat->β) (v:β) (n i:Nat):((List.range n).map f).set i v=(List.range n).map (cQ f i v):=by
 refine List.ext_getElem (by simp) fun k h1 h2=>?_
 rw[List.getElem_set]
 simp only[List.getElem_map,List.getElem_range]
 by_cases e:i=k
 ·rw[if_pos e,e,bJ]
 ·rw[if_neg e,bq _ _ fun h=>e h.symm]
theorem sx (n i v:Nat) (f:Nat->Nat):(kV n f).set i (v:Int)=kV n (cQ f i v):=by
 rw[kV,v6,kV]
 refine List.map_congr_left fun x _=>?_
 unfold cQ;split<;>rfl
theorem F4 (n i k:Nat) (f:Nat->Option Nat):(eW n f).set i (k:Int)=eW n (cQ f i (some k)):=by
 rw[eW,v6,eW]
 refine List.map_congr_left fun x _=>?_
 unfold cQ;split<;>rfl
theorem il {n i:Nat} (h:i<n) (f:Nat->Nat):(kV n f).getD i 0=(f i:Int):=by
 rw[kV,gD,List.getElem?_map,List.getElem?_range h];rfl
theorem Ik {n i:Nat} (h:i<n) (f:Nat->Option Nat):(eW n f).getD i 0<0↔f i=none:=by
 rw[eW,gD,List.getElem?_map,List.getElem?_range h]
 show(match f i with|some k=>(k:Int)|none=>-1)<0↔_
 cases f i with
 |none=>simp
 |some k=>simp
theorem sy (n:Nat) (f:Nat->Option Nat):(eW n f).length=n:=by simp[eW]
structure KS where
 se:Nat->Bool
 od:List Nat
inductive Kv (E:Nat->List Nat):List Nat->KS->KS->Prop
 |nil {s}:Kv E [] s s
 |white {y ys s s1 s3}:s.se y=false->Kv E (E y) {s with se:=cQ s.se y true} s1->Kv E ys {s1 with od:=s1.od++[y]} s3->Kv E (y::ys) s s3
 |seen {y ys s s3}:s.se y=true->Kv E ys s s3->Kv E (y::ys) s s3
def NP (E:Nat->List Nat) (P:Nat->Prop):Nat->Nat->Prop:=fun x y=>P x/\P y/\y∈E x
inductive jD (R:Nat->Nat->Prop):Nat->Nat->Prop
 |refl (x):jD R x x
 |step {x y z}:R x y->jD R y z->jD R x z
theorem jD.trans {R:Nat->Nat->Prop} {x y z} (h:jD R x y) (k:jD R y z):jD R x z:=by
 induction h with
 |refl=>exact k
 |step e _ ih=>exact .step e (ih k)
theorem jD.mono {R Q:Nat->Nat->Prop} (hm:∀x y,R x y->Q x y) {x y} (h:jD R x y):jD Q x y:=by
 induction h with
 |refl=>exact .refl _
 |step e _ ih=>exact .step (hm _ _ e) ih
theorem jD.stay {R:Nat->Nat->Prop} {A:Nat->Prop} (ha:∀x y,A x->R x y->A y) {x y} (h:jD R x y) (k:A x):A y:=by
 induction h with
 |refl=>exact k
 |step e _ ih=>exact ih (ha _ _ k e)
def MR (E:Nat->List Nat) (ex:Nat->Bool):Nat->Nat->Prop:=fun x y=>y∈E x/\ex y=false
structure KG (E:Nat->List Nat) (ex:Nat->Bool) (s:KS):Prop where
 xs:∀x,ex x=true->s.se x=true
 on:∀x∈s.od,s.se x=true/\ex x=false
 cl:∀x∈s.od,∀y∈E x,s.se y=true
 ko:∀A r B,s.od=A++r::B->∀x,jD (NP E fun z=>z∈A\/z=r) x r->jD (MR E ex) r x
theorem Kv.good {E:Nat->List Nat} {ex:Nat->Bool} {ys s t} (h:Kv E ys s t):KG E ex s->
  KG E ex t/\∃N,t.od=s.od++N/\(∀x,t.se x=true↔s.se x=true\/x∈N)/\(∀x∈N,s.se x=false)/\(∀y∈ys,t.se y=true)/\
   (∀x∈N,∃y∈ys,s.se y=false/\jD (MR E ex) y x):=by
 induction h with
 |nil=>exact fun g=>⟨g,[],by simp⟩
 |@seen y ys s s3 hy _ ih=>
  intro g
  obtain⟨g',N,h1,h2,h3,h4,h5⟩:=ih g
  refine⟨g',N,h1,h2,h3,fun z hz=>?_,fun x hx=>?_⟩
  ·rcases List.mem_cons.1 hz with hz|hz
   ·subst hz;exact(h2 _).2 (.inl hy)
   ·exact h4 z hz
  ·obtain⟨z,hz,k⟩:=h5 x hx
   exact⟨z,List.mem_cons_of_mem _ hz,k⟩
 |@white y ys s s1 s3 hy _ _ ih1 ih2=>
  intro g
  have hexy:ex y=false:=by
   cases h:ex y with
   |false=>rfl
   |true=>rw[g.xs y h] at hy;cases hy
  have hmk:∀x,cQ s.se y true x=true↔x=y\/s.se x=true:=by
   intro x
   by_cases e:x=y
   ·subst e;simp[bJ]
   ·rw[bq _ _ e];simp[e]
  have g0:KG E ex {s with se:=cQ s.se y true}:={
   xs:=fun x hx=>(hmk x).2 (.inr (g.xs x hx))
   on:=fun x hx=>⟨(hmk x).2 (.inr (g.on x hx).1),(g.on x hx).2⟩
   cl:=fun x hx w hw=>(hmk w).2 (.inr (g.cl x hx w hw))
   ko:=g.ko}
  obtain⟨g1,N,h1,h2,h3,h4,h5⟩:=ih1 g0
  have h1:s1.od=s.od++N:=h1
  have h2:∀x,s1.se x=true↔(x=y\/s.se x=true)\/x∈N:=fun x=>by rw[h2 x];exact or_congr (hmk x) .rfl
  have h3':∀x∈N,x≠y/\s.se x=false:=by
   intro x hx
   have:=h3 x hx
   by_cases e:x=y
   ·have:=(hmk x).2 (.inl e);simp_all
   ·exact⟨e,by rw[<-this];exact(bq _ _ e).symm⟩
  have hyx:∀x∈N,jD (MR E ex) y x:=by
   intro x hx
   obtain⟨z,hz,hs,r⟩:=h5 x hx
   have:z≠y/\s.se z=false:=by
    have hs:cQ s.se y true z=false:=hs
    by_cases e:z=y
    ·have:=(hmk z).2 (.inl e);simp_all
    ·exact⟨e,by rw[<-hs];exact(bq _ _ e).symm⟩
   refine .step ⟨hz,?_⟩ r
   cases h:ex z with
   |false=>rfl
   |true=>rw[g.xs z h] at this;cases this.2
  have g2:KG E ex {s1 with od:=s1.od++[y]}:={
   xs:=g1.xs
   on:=fun x hx=>by
    rcases List.mem_append.1 hx with hx|hx
    ·exact g1.on x hx
    ·obtain rfl:=List.mem_singleton.1 hx
     exact⟨(h2 _).2 (.inl (.inl rfl)),hexy⟩
   cl:=fun x hx w hw=>by
    rcases List.mem_append.1 hx with hx|hx
    ·exact g1.cl x hx w hw
    ·obtain rfl:=List.mem_singleton.1 hx
     exact h4 w hw
   ko:=by
    intro A r B e x k
    have e:s1.od++[y]=A++r::B:=e
    rcases List.eq_nil_or_concat B with hB|⟨B',b,hB⟩
    ·subst hB
     have ⟨e1,e2⟩:=List.append_inj' e rfl
     obtain rfl:y=r:=by simpa using e2
     subst e1
     by_cases hx:x∈s.od
     ·exfalso
      have:y∈s.od:=jD.stay (A:=fun z=>z∈s.od) (R:=NP E fun z=>z∈s1.od\/z=y) (by
       rintro u w hu ⟨_,hw,huw⟩
       have hsw:=g.cl u hu w huw
       rcases hw with hw|hw
       ·rw[h1] at hw
        rcases List.mem_append.1 hw with hw|hw
        ·exact hw
        ·rw[(h3' w hw).2] at hsw;cases hsw
       ·subst hw;rw[hy] at hsw;cases hsw) k hx
      rw[(g.on y this).1] at hy;cases hy
     ·cases k with
      |refl=>exact .refl _
      |step e' _=>
       rcases e'.1 with hx'|hx'
       ·rw[h1] at hx'
        rcases List.mem_append.1 hx' with hx'|hx'
        ·exact absurd hx' hx
        ·exact hyx x hx'
       ·subst hx';exact .refl _
    ·subst hB
     have e':s1.od=A++r::B':=by
      have:s1.od++[y]=(A++r::B')++[b]:=by rw[e];simp
      exact(List.append_inj' this rfl).1
     exact g1.ko A r B' e' x k}
  obtain⟨g3,N',q1,q2,q3,q4,q5⟩:=ih2 g2
  have q2:∀x,s3.se x=true↔s1.se x=true\/x∈N':=q2
  have q3:∀x∈N',s1.se x=false:=q3
  have nos:∀x,s1.se x=false->s.se x=false:=by
   intro x hx
   cases h:s.se x with
   |false=>rfl
   |true=>rw[(h2 x).2 (.inl (.inr h))] at hx;cases hx
  refine⟨g3,N++y::N',?_,?_,?_,?_,?_⟩
  ·have:s3.od=(s1.od++[y])++N':=q1
   rw[this,h1];simp
  ·intro x
   rw[q2,h2,List.mem_append,List.mem_cons]
   constructor
   ·rintro(((h|h)|h)|h)<;>simp[h]
   ·rintro(h|h|h|h)<;>simp[h]
  ·intro x hx
   rcases List.mem_append.1 hx with hx|hx
   ·exact(h3' x hx).2
   ·rcases List.mem_cons.1 hx with hx|hx
    ·subst hx;exact hy
    ·exact nos x (q3 x hx)
  ·intro z hz
   rcases List.mem_cons.1 hz with hz|hz
   ·subst hz;exact(q2 _).2 (.inl ((h2 _).2 (.inl (.inl rfl))))
   ·exact q4 z hz
  ·intro x hx
   rcases List.mem_append.1 hx with hx|hx
   ·exact⟨y,List.mem_cons_self ..,hy,hyx x hx⟩
   ·rcases List.mem_cons.1 hx with hx|hx
    ·subst hx;exact⟨_,List.mem_cons_self ..,hy, .refl _⟩
    ·obtain⟨z,hz,hs,r⟩:=q5 x hx
     exact⟨z,List.mem_cons_of_mem _ hz,nos z hs,r⟩
def gr (p:Nat):List Nat->(Nat->Option Nat)×List Nat->(Nat->Option Nat)×List Nat
 |[],s=>s
 |b::l,s=>gr p l (if s.1 b=none then(cQ s.1 b (some p),b::s.2) else s)
inductive Kw (bk:Nat->List Nat) (p:Nat):List Nat->(Nat->Option Nat)->(Nat->Option Nat)->Prop
 |nil {f}:Kw bk p [] f f
 |cons {j w f g}:Kw bk p (gr p (bk j) (f,w)).2 (gr p (bk j) (f,w)).1 g->Kw bk p (j::w) f g
inductive Kc (bk:Nat->List Nat):List Nat->Nat->(Nat->Option Nat)->Nat->(Nat->Option Nat)->Prop
 |nil {p f}:Kc bk [] p f p f
 |skip {r rs p f q g}:f r≠none->Kc bk rs p f q g->Kc bk (r::rs) p f q g
 |new {r rs p f g1 q g}:f r=none->Kw bk p [r] (cQ f r (some p)) g1->Kc bk rs (p+1) g1 q g->Kc bk (r::rs) p f q g
theorem mo {p:Nat}:∀{l:List Nat} {s:(Nat->Option Nat)×List Nat},
  (∀x,(gr p l s).1 x=s.1 x\/s.1 x=none/\(gr p l s).1 x=some p/\x∈l)/\(∀b∈l,(gr p l s).1 b≠none)/\
   (∀x,x∈(gr p l s).2↔x∈s.2\/s.1 x=none/\x∈l)
 |[],s=>by simp[gr]
 |b::l,s=>by
  by_cases h:s.1 b=none
  ·have ih:=mo (p:=p) (l:=l) (s:=(cQ s.1 b (some p),b::s.2))
   rw[gr,if_pos h]
   refine⟨fun x=>?_,fun c hc=>?_,fun x=>?_⟩
   ·by_cases e:x=b
    ·subst e
     right
     rcases ih.1 x with k|⟨k,_⟩
     ·exact⟨h,by rw[k];exact bJ ..,List.mem_cons_self ..⟩
     ·have k:cQ s.1 x (some p) x=none:=k;rw[bJ] at k;cases k
    ·rcases ih.1 x with k|⟨k,k',k''⟩
     ·left;rw[k];exact bq _ _ e
     ·right;exact⟨by rw[<-k];exact(bq _ _ e).symm,k',List.mem_cons_of_mem _ k''⟩
   ·rcases List.mem_cons.1 hc with hc|hc
    ·subst hc
     rcases ih.1 c with k|⟨_,k,_⟩
     ·rw[k];show cQ s.1 c (some p) c≠none;rw[bJ];simp
     ·rw[k];simp
    ·exact ih.2.1 c hc
   ·rw[ih.2.2]
    by_cases e:x=b
    ·subst e;simp[h]
    ·show x∈b::s.2\/cQ s.1 b (some p) x=none/\x∈l↔_
     rw[bq _ _ e];simp[e]
  ·have ih:=mo (p:=p) (l:=l) (s:=s)
   rw[gr,if_neg h]
   refine⟨fun x=>?_,fun c hc=>?_,fun x=>?_⟩
   ·rcases ih.1 x with k|⟨k,k',k''⟩
    ·exact .inl k
    ·exact .inr ⟨k,k',List.mem_cons_of_mem _ k''⟩
   ·rcases List.mem_cons.1 hc with hc|hc
    ·subst hc
     rcases ih.1 c with k|⟨_,k,_⟩
     ·rw[k];exact h
     ·rw[k];simp
    ·exact ih.2.1 c hc
   ·rw[ih.2.2]
    constructor
    ·rintro(k|⟨k,k'⟩)<;>simp[*]
    ·rintro(k|⟨k,k'⟩)
     ·exact .inl k
     ·rcases List.mem_cons.1 k' with e|e
      ·subst e;exact absurd k h
      ·exact .inr ⟨k,e⟩
theorem Kw.good {bk:Nat->List Nat} {p w f g} (h:Kw bk p w f g) {f0:Nat->Option Nat} {r:Nat} (hp:∀x,f0 x≠some p):
  (∀x∈w,f x=some p)->(∀x,f x=f0 x\/f0 x=none/\f x=some p/\jD (fun a b=>f0 a=none/\f0 b=none/\a∈bk b) x r)->
  (∀x,f x=some p->x∈w\/∀b∈bk x,f b≠none)->
  (∀x,g x=f0 x\/f0 x=none/\g x=some p/\jD (fun a b=>f0 a=none/\f0 b=none/\a∈bk b) x r)/\
   (∀x,g x=some p->∀b∈bk x,g b≠none)/\∀x,f x≠none->g x=f x:=by
 induction h with
 |@nil f=>
  intro _ h2 h3
  refine⟨h2,fun x hx=>?_,fun _ _=>rfl⟩
  rcases h3 x hx with k|k
  ·cases k
  ·exact k
 |@cons j w f g _ ih=>
  intro h1 h2 h3
  have P:=mo (p:=p) (l:=bk j) (s:=(f,w))
  generalize gr p (bk j) (f,w)=t at P ih
  obtain⟨P1,P2,P3⟩:=P
  have P1:∀x,t.1 x=f x\/f x=none/\t.1 x=some p/\x∈bk j:=P1
  have P3:∀x,x∈t.2↔x∈w\/f x=none/\x∈bk j:=P3
  have keep:∀x,f x≠none->t.1 x=f x:=fun x hx=>by
   rcases P1 x with k|⟨k,_⟩
   ·exact k
   ·exact absurd k hx
  have hj:=h1 j (List.mem_cons_self ..)
  obtain⟨q1,q2,q3⟩:=ih (by
   intro x hx
   rcases(P3 x).1 hx with k|⟨k,k'⟩
   ·have:=h1 x (List.mem_cons_of_mem _ k)
    rw[keep x (by rw[this];simp),this]
   ·rcases P1 x with e|⟨_,e,_⟩
    ·exact absurd (e.trans k) (P2 x k')
    ·exact e) (by
   intro x
   rcases P1 x with e|⟨e,e',m⟩
   ·rw[e];exact h2 x
   ·have e0:f0 x=none:=by
     rcases h2 x with k|⟨k,_⟩
     ·rw[<-k];exact e
     ·exact k
    refine .inr ⟨e0,e',?_⟩
    rcases h2 j with k|⟨k,_,r⟩
    ·rw[hj] at k;exact absurd k.symm (hp j)
    ·exact .step ⟨e0,k,m⟩ r) (by
   intro x hx
   by_cases hxj:x=j
   ·subst hxj;exact .inr fun b hb=>P2 b hb
   ·rcases P1 x with e|⟨e,e',m⟩
    ·rw[e] at hx
     rcases h3 x hx with k|k
     ·rcases List.mem_cons.1 k with k|k
      ·exact absurd k hxj
      ·exact .inl ((P3 x).2 (.inl k))
     ·exact .inr fun b hb=>by rw[keep b (k b hb)];exact k b hb
    ·exact .inl ((P3 x).2 (.inr ⟨e,m⟩)))
  exact⟨q1,q2,fun x hx=>by rw[q3 x (by rw[keep x hx];exact hx),keep x hx]⟩
structure KP (V:Nat->Prop) (R:Nat->Nat->Prop) (p:Nat) (f:Nat->Option Nat):Prop where
 on:∀x,f x≠none->V x
 lt:∀x k,f x=some k->k<p
 mu:∀x y,f x≠none->f x=f y->jD R x y
 mx:∀x y,f x≠none->jD R x y->jD R y x->f y=f x
theorem Kc.good {bk:Nat->List Nat} {rs p f q g} (h:Kc bk rs p f q g) {V:Nat->Prop} {R:Nat->Nat->Prop}
  (hb:∀i j,i∈bk j↔V i/\V j/\R i j) (hR:∀i j,V i->R i j->V j):∀{A:List Nat},(∀x,V x↔x∈A)->∀{D},A=rs.reverse++D->(∀x∈D,f x≠none)->
  (∀A1 r B,A=A1++r::B->∀x,jD (fun a b=>(a∈A1\/a=r)/\(b∈A1\/b=r)/\R a b) x r->jD R r x)->
  KP V R p f->KP V R q g/\(∀x,V x->g x≠none)/\q<=p+rs.length:=by
 induction h with
 |@nil p f=>
  intro A hV D e hD _ g
  refine⟨g,fun x hx=>hD x ?_,Nat.le_refl _⟩
  rw[hV,e] at hx;simpa using hx
 |@skip r rs p f q g hr _ ih=>
  intro A hV D e hD ko G
  obtain⟨a,b,c⟩:=ih hV (D:=r::D) (by rw[e];simp) (by
   intro x hx
   rcases List.mem_cons.1 hx with hx|hx
   ·subst hx;exact hr
   ·exact hD x hx) ko G
  exact⟨a,b,by simp;omega⟩
 |@new r rs p f g1 q g hr hw _ ih=>
  intro A hV D e hD ko G
  have hVr:V r:=by rw[hV,e];simp
  have hp:∀x,f x≠some p:=fun x k=>Nat.lt_irrefl _ (G.lt x p k)
  obtain⟨w1,w2,w3⟩:=hw.good (f0:=f) (r:=r) hp (by
   intro x hx
   obtain rfl:=List.mem_singleton.1 hx
   exact bJ ..) (by
   intro x
   by_cases hx:x=r
   ·subst hx;exact .inr ⟨hr,bJ .., .refl _⟩
   ·exact .inl (bq _ _ hx)) (by
   intro x hx
   by_cases k:x=r
   ·exact .inl (by simp[k])
   ·rw[bq _ _ k] at hx;exact absurd hx (hp x))
  have hrp:g1 r=some p:=by rw[w3 r (by rw[bJ];simp)];exact bJ ..
  have keep:∀x,f x≠none->g1 x=f x:=fun x hx=>by
   rcases w1 x with k|⟨k,_⟩
   ·exact k
   ·exact absurd k hx
  have hun:∀x,V x->f x=none->x∈rs.reverse\/x=r:=by
   intro x hx k
   rw[hV,e] at hx
   simp only[List.reverse_cons,List.append_assoc,List.singleton_append,List.mem_append,List.mem_cons] at hx
   rcases hx with hx|hx|hx
   ·exact .inl hx
   ·exact .inr hx
   ·exact absurd k (hD x hx)
  have tor:∀x,g1 x=some p->V x/\jD R x r/\jD R r x:=by
   intro x hx
   rcases w1 x with k|⟨k,_,path⟩
   ·rw[hx] at k;exact absurd k.symm (hp x)
   ·have hVx:V x:=by
     cases path with
     |refl=>exact hVr
     |step e _=>exact((hb _ _).1 e.2.2).1
    refine⟨hVx,path.mono fun a b h=>((hb _ _).1 h.2.2).2.2,?_⟩
    refine ko rs.reverse r D (by rw[e];simp) x (path.mono fun a b h=>?_)
    have:=(hb _ _).1 h.2.2
    exact⟨hun a this.1 h.1,hun b this.2.1 h.2.1,this.2.2⟩
  have cases1:∀x,g1 x≠none->f x≠none/\g1 x=f x\/f x=none/\g1 x=some p:=by
   intro x hx
   rcases w1 x with k|⟨k,k',_⟩
   ·rw[k] at hx;exact .inl ⟨hx,k⟩
   ·exact .inr ⟨k,k'⟩
  have full:∀x,jD R x r->jD R r x->g1 x=some p:=by
   intro x h1 h2
   have hVx:V x:=h2.stay (A:=V) (fun a b ha hab=>hR a b ha hab) hVr
   have back:∀x y,jD R x y->V x->jD R r x->g1 y=some p->jD R y r->g1 x=some p:=by
    intro x y h
    induction h with
    |refl=>exact fun _ _ k _=>k
    |@step x y z e t ih=>
     intro hv hrx hz hzr
     have hy:=ih (hR _ _ hv e) (hrx.trans (.step e (.refl _))) hz hzr
     have hne:g1 x≠none:=w2 y hy x ((hb _ _).2 ⟨hv,hR _ _ hv e,e⟩)
     rcases cases1 x hne with ⟨k,_⟩|⟨_,k⟩
     ·exfalso
      have:=G.mx x r k (.step e (t.trans hzr)) hrx
      rw[hr] at this;exact k this.symm
     ·exact k
   exact back x r h1 hVx h2 hrp (.refl _)
  have G1:KP V R (p+1) g1:={
   on:=fun x hx=>by
    rcases cases1 x hx with ⟨k,_⟩|⟨_,k⟩
    ·exact G.on x k
    ·exact(tor x k).1
   lt:=fun x k hk=>by
    rcases cases1 x (by rw[hk];simp) with ⟨_,e⟩|⟨_,e⟩
    ·have:=G.lt x k (by rw[<-e];exact hk);omega
    ·rw[e] at hk;cases hk;omega
   mu:=fun x y hx exy=>by
    rcases cases1 x hx with ⟨k,e1⟩|⟨_,e1⟩
    ·rcases cases1 y (by rw[<-exy];exact hx) with ⟨_,e2⟩|⟨_,e2⟩
     ·exact G.mu x y k (by rw[<-e1,exy,e2])
     ·rw[<-exy,e1] at e2;exact absurd e2 (hp x)
    ·exact(tor x e1).2.1.trans (tor y (by rw[<-exy];exact e1)).2.2
   mx:=fun x y hx h1 h2=>by
    rcases cases1 x hx with ⟨k,e1⟩|⟨_,e1⟩
    ·have:=G.mx x y k h1 h2
     rw[e1,keep y (by rw[this];exact k)];exact this
    ·rw[e1]
     exact full y (h2.trans (tor x e1).2.1) ((tor x e1).2.2.trans h1)}
  obtain⟨a,b,c⟩:=ih hV (D:=r::D) (by rw[e];simp) (by
   intro x hx
   rcases List.mem_cons.1 hx with hx|hx
   ·subst hx;rw[hrp];simp
   ·rw[keep x (hD x hx)];exact hD x hx) ko G1
  exact⟨a,b,by simp;omega⟩
def wh (n:Nat) (s:KS):List Nat:=(List.range n).filter fun x=>!(s.se x)
theorem Il {n:Nat} {s:KS} {x:Nat}:x∈wh n s↔x<n/\s.se x=false:=by simp[wh]
theorem yk {n i:Nat} {s:KS} (hi:i<n) (h:s.se i=false):(wh n {s with se:=cQ s.se i true}).length+1=(wh n s).length:=by
 have:=kL (p:=fun x=>!(s.se x)) (l:=List.range n) List.nodup_range (List.mem_range.2 hi) (by simp[h])
 rw[wh,wh,<-this]
 congr 2
 refine List.filter_congr fun x _=>?_
 show(!(cQ s.se i true x))=_
 by_cases e:x=i
 ·subst e;rw[bJ];simp
 ·rw[bq _ _ e];simp[e]
theorem Kv.num {E:Nat->List Nat} {n ys s t} (h:Kv E ys s t):(∀x,∀y∈E x,y<n)->(∀y∈ys,y<n)->
  (∀x,s.se x=true->t.se x=true)/\(wh n t).length<=(wh n s).length/\t.od.length+(wh n t).length<=s.od.length+(wh n s).length:=by
 have sub:∀{s t:KS},(∀x,s.se x=true->t.se x=true)->(wh n t).length<=(wh n s).length:=fun{s t} h=>
  pe _ fun x _ hx=>by
   cases hs:s.se x with
   |false=>rfl
   |true=>rw[h x hs] at hx;cases hx
 induction h with
 |nil=>exact fun _ _=>⟨fun _ h=>h,Nat.le_refl _,Nat.le_refl _⟩
 |seen _ _ ih=>exact fun hE hy=>ih hE fun z hz=>hy z (List.mem_cons_of_mem _ hz)
 |@white y ys s s1 s3 hw _ _ ih1 ih2=>
  intro hE hy
  have hyn:=hy y List.mem_cons_self
  have a:=ih1 hE (hE y)
  have b:=ih2 hE fun z hz=>hy z (List.mem_cons_of_mem _ hz)
  have m:=yk hyn hw
  have v:∀x,s.se x=true->s3.se x=true:=fun x hx=>b.1 x (a.1 x (by
   show cQ s.se y true x=true
   by_cases e:x=y
   ·rw[e,bJ]
   ·rw[bq _ _ e];exact hx))
  refine⟨v,sub v,?_⟩
  have b3:=b.2.2
  have a3:=a.2.2
  have e1:wh n {s1 with od:=s1.od++[y]}=wh n s1:=rfl
  rw[e1] at b3
  simp only[List.length_append,List.length_cons,List.length_nil] at b3
  have a3:s1.od.length+(wh n s1).length<=s.od.length+(wh n {s with se:=cQ s.se y true}).length:=a3
  omega
theorem sA (p:Nat):∀(l:List Nat) (s:(Nat->Option Nat)×List Nat) (n:Nat),(∀b∈l,b<n)->
  (gr p l s).2.length+((List.range n).filter fun x=>decide ((gr p l s).1 x=none)).length=s.2.length+((List.range n).filter fun x=>decide (s.1 x=none)).length
 |[],_,_,_=>rfl
 |b::l,s,n,h=>by
  rw[gr]
  by_cases k:s.1 b=none
  ·rw[if_pos k,sA p l _ n fun c hc=>h c (List.mem_cons_of_mem _ hc)]
   have:=kL (p:=fun x=>decide (s.1 x=none)) (l:=List.range n) List.nodup_range (List.mem_range.2 (h b List.mem_cons_self)) (by simp[k])
   rw[<-this,List.length_cons]
   have e:(List.range n).filter (fun x=>decide (cQ s.1 b (some p) x=none))=(List.range n).filter (fun x=>decide (s.1 x=none)&&!(x==b)):=by
    refine List.filter_congr fun x _=>?_
    by_cases e:x=b
    ·subst e;rw[bJ];simp
    ·rw[bq _ _ e];simp[e]
   show s.2.length+1+((List.range n).filter (fun x=>decide (cQ s.1 b (some p) x=none))).length=_
   rw[e];omega
  ·rw[if_neg k,sA p l s n fun c hc=>h c (List.mem_cons_of_mem _ hc)]
section
variable {p:ao} {q:bn} {s:az}
def sB (p:ao) (q:bn) (s:az) (c:ap) (x:aQ) (d:ap):Prop:=cz p s c x false/\bo c (aH p x) x/\d=cb c (aH p x) x/\¬c8 q d
inductive tj (p:ao) (q:bn) (s:az):ap->Prop
 |ini {c}:lH p q s c->¬c8 q c->tj p q s c
 |stp {c x d}:tj p q s c->sB p q s c x d->tj p q s d
inductive Gw (p:ao) (q:bn) (s:az):ap->List aQ->ap->Prop
 |nil (c):Gw p q s c [] c
 |cons {c x d l e}:sB p q s c x d->Gw p q s d l e->Gw p q s c (x::l) e
theorem Gw.app {a b c l m} (h:Gw p q s a l b) (k:Gw p q s b m c):Gw p q s a (l++m) c:=by
 induction h with
 |nil=>exact k
 |cons e _ ih=>exact .cons e (ih k)
theorem tj.not {c} (h:tj p q s c):¬c8 q c:=by
 cases h with
 |ini _ h=>exact h
 |stp _ h=>exact h.2.2.2
theorem tj.go {c l d} (h:tj p q s c) (k:Gw p q s c l d):tj p q s d:=by
 induction k with
 |nil=>exact h
 |cons e _ ih=>exact ih (h.stp e)
theorem tj.run {c} (h:tj p q s c):∃a l,lH p q s a/\¬c8 q a/\Gw p q s a l c:=by
 induction h with
 |@ini c h k=>exact⟨c,[],h,k, .nil c⟩
 |stp _ e ih=>
  obtain⟨a,l,h1,h2,h3⟩:=ih
  exact⟨a,_,h1,h2,h3.app (.cons e (.nil _))⟩
def Nj (p:ao) (q:bn) (s:az) (c d:ap):Prop:=(∃l,Gw p q s c l d)/\∃l,Gw p q s d l c
def Bo (p:ao) (q:bn) (s:az) (c:ap):Prop:=∀r i:Nat,r<p.rules.length->(i:Int)<s.n-s.f->
 (∃d,Nj p q s c d/\¬xJ p s d r i)\/∃d x e,Nj p q s c d/\sB p q s d x e/\Nj p q s c e/\x.rule=r/\x.process=i
theorem F5 {c l} (h:fB p s c l) (hn:∀d∈trs p c l,¬c8 q d):Gw p q s c l ((trs p c l).getD l.length aC):=by
 induction l generalizing c with
 |nil=>exact .nil c
 |cons x l ih=>
  exact .cons ⟨h.1,h.2.1,rfl,hn _ (List.mem_cons_of_mem _ List.mem_cons_self)⟩ (ih h.2.2 fun d hd=>hn d (List.mem_cons_of_mem _ hd))
theorem Gw.trs {c l d} (h:Gw p q s c l d):fB p s c l/\(trs p c l).getD l.length aC=d/\∀e∈tr p c l,¬c8 q e:=by
 induction h with
 |nil c=>exact⟨trivial,rfl,fun _ h=>nomatch h⟩
 |@cons c x d l e h _ ih=>
  obtain⟨h1,h2,rfl,h4⟩:=h
  refine⟨⟨h1,h2,ih.1⟩,ih.2.1,fun e he=>?_⟩
  rcases List.mem_cons.1 he with rfl|he
  ·exact h4
  ·exact ih.2.2 e he
theorem Gw.at {c l e d} (h:Gw p q s c l e) (hd:d∈Go.Proofs.YtokjgegkhlkopaaGreatDoor.trs p c l):(∃m,Gw p q s c m d)/\∃m,Gw p q s d m e:=by
 induction h with
 |nil c=>
  obtain rfl:d=c:=by simpa[Go.Proofs.YtokjgegkhlkopaaGreatDoor.trs,tr] using hd
  exact⟨⟨_, .nil _⟩,⟨_, .nil _⟩⟩
 |@cons c x b l e h t ih=>
  rcases List.mem_cons.1 hd with rfl|hd
  ·exact⟨⟨_, .nil _⟩,⟨_, .cons h t⟩⟩
  ·have hd:d∈Go.Proofs.YtokjgegkhlkopaaGreatDoor.trs p b l:=by obtain⟨_,_,rfl,_⟩:=h;exact hd
   obtain⟨⟨m,k⟩,k'⟩:=ih hd
   exact⟨⟨_, .cons h k⟩,k'⟩
theorem Gw.by {c l e x} (h:Gw p q s c l e) (hx:x∈l):∃a b,(∃m,Gw p q s c m a)/\sB p q s a x b/\∃m,Gw p q s b m e:=by
 induction h with
 |nil=>cases hx
 |@cons c y b l e h t ih=>
  rcases List.mem_cons.1 hx with rfl|hx
  ·exact⟨c,b,⟨_, .nil _⟩,h,⟨_,t⟩⟩
  ·obtain⟨a,b',⟨m,k⟩,k',k''⟩:=ih hx
   exact⟨a,b',⟨_, .cons h k⟩,k',k''⟩
theorem yl {l:um} (h:te p q s (c8 q) l):∃c,tj p q s c/\Bo p q s c:=by
 obtain⟨_,_,h3,h4,h5,h6⟩:=h
 have g:=F5 h4 h5
 have av:tj p q s (jY p l):=(tj.ini h3 (h5 _ List.mem_cons_self)).go g
 have w:=F5 h6.run h6.not
 rw[h6.back] at w
 refine⟨_,av,fun r i hr hi=>?_⟩
 rcases h6.free r i hr hi with ⟨x,hx,e1,e2⟩|⟨d,hd,hf⟩
 ·obtain⟨a,b,⟨m,k1⟩,k2,⟨m',k3⟩⟩:=w.by hx
  exact .inr ⟨a,x,b,⟨⟨_,k1⟩,⟨_, .cons k2 k3⟩⟩,k2,⟨⟨_,k1.app (.cons k2 (.nil _))⟩,⟨_,k3⟩⟩,e1,e2⟩
 ·exact .inl ⟨d,w.at hd,hf⟩
theorem KZ {st c:ap} {pre loop:List aQ} (h1:dB p q s=0) (h2:q.kind=2) (h3:lH p q s st) (h4:¬c8 q st) (hp:Gw p q s st pre c) (hl:Gw p q s c loop c)
  (hf:∀r i:Nat,r<p.rules.length->(i:Int)<s.n-s.f->(∃x∈loop,x.rule=r/\x.process=i)\/∃d l1 l2,loop=l1++l2/\Gw p q s c l1 d/\¬xJ p s d r i):te p q s (c8 q) ⟨st,pre,loop⟩:=by
 obtain⟨a1,a2,a3⟩:=hp.trs
 obtain⟨b1,b2,b3⟩:=hl.trs
 have hn:¬c8 q c:=by
  cases hp with
  |nil=>exact h4
  |cons e t=>
   rw[<-a2]
   exact a3 _ (by
    show(Go.Proofs.YtokjgegkhlkopaaGreatDoor.trs p _ (_::_)).getD (_+1) aC∈_
    exact aG aC (l:=tr p st _) (by rw[zK];exact Nat.lt_succ_self _))
 have m:jY p ⟨st,pre,loop⟩=c:=a2
 refine⟨h1,h2,h3,a1,fun d hd=>?_,by rw[m];exact b1,by rw[m];exact b2,fun d hd=>?_,fun r i hr hi=>?_⟩
 ·rcases List.mem_cons.1 hd with rfl|hd
  ·exact h4
  ·exact a3 d hd
 ·rw[m] at hd
  rcases List.mem_cons.1 hd with rfl|hd
  ·exact hn
  ·exact b3 d hd
 ·rw[m]
  rcases hf r i hr hi with k|⟨d,l1,l2,rfl,k,k'⟩
  ·exact .inl k
  ·refine .inr ⟨d,?_,k'⟩
   rw[HR]
   refine List.mem_append_left _ ?_
   rw[<-k.trs.2.1]
   exact aG aC (by rw[vF];omega)
end
end
section
structure ym (p:ao) (q:bn) (s:az) (V:Nat->Prop) (cf:Nat->ap) (e:Nat->aQ->Nat->Prop):Prop where
 av:∀i,V i->tj p q s (cf i)
 all:∀c,tj p q s c->∃i,V i/\cf i=c
 inj:∀i j,V i->V j->cf i=cf j->i=j
 edg:∀i x j,V i->(e i x j↔V j/\sB p q s (cf i) x (cf j))
section
variable {p:ao} {q:bn} {s:az} {V:Nat->Prop} {cf:Nat->ap} {e:Nat->aQ->Nat->Prop}
theorem ym.walk (G:ym p q s V cf e) {i j} (h:jD (fun a b=>∃x,e a x b) i j):V i->V j/\∃l,Gw p q s (cf i) l (cf j):=by
 induction h with
 |refl=>exact fun h=>⟨h,[], .nil _⟩
 |@step a b c k _ ih=>
  intro h
  obtain⟨x,k⟩:=k
  have:=(G.edg _ _ _ h).1 k
  obtain⟨h1,l,h2⟩:=ih this.1
  exact⟨h1,x::l, .cons this.2 h2⟩
theorem ym.back (G:ym p q s V cf e) {c l d} (h:Gw p q s c l d):∀{i j},V i->V j->cf i=c->cf j=d->jD (fun a b=>∃x,e a x b) i j:=by
 induction h with
 |nil c=>
  intro i j hi hj h1 h2
  obtain rfl:=G.inj i j hi hj (h1.trans h2.symm)
  exact .refl _
 |@cons c x d l f h _ ih=>
  intro i j hi hj h1 h2
  subst h1
  obtain⟨k,hk,e1⟩:=G.all d ((G.av i hi).stp h)
  subst e1
  exact .step ⟨x,(G.edg _ _ _ hi).2 ⟨hk,h⟩⟩ (ih hk hj rfl h2)
theorem ym.mu (G:ym p q s V cf e) {n pt} (K:KP V (fun a b=>∃x,e a x b) n pt) (ha:∀x,V x->pt x≠none) {i j} (hi:V i) (hj:V j):pt i=pt j↔Nj p q s (cf i) (cf j):=by
 constructor
 ·exact fun h=>⟨(G.walk (K.mu i j (ha i hi) h) hi).2,(G.walk (K.mu j i (ha j hj) h.symm) hj).2⟩
 ·rintro⟨⟨_,h⟩,⟨_,k⟩⟩
  exact(K.mx i j (ha i hi) (G.back h hi hj rfl rfl) (G.back k hj hi rfl rfl)).symm
def K3 (p:ao) (s:az) (V:Nat->Prop) (cf:Nat->ap) (e:Nat->aQ->Nat->Prop) (pt:Nat->Option Nat) (k:Option Nat) (r i:Int):Prop:=
 (∃j,V j/\pt j=k/\¬xJ p s (cf j) r i)\/∃j x j',V j/\pt j=k/\e j x j'/\pt j'=k/\x.rule=r/\x.process=i
theorem ym.fair (G:ym p q s V cf e) {n pt} (K:KP V (fun a b=>∃x,e a x b) n pt) (ha:∀x,V x->pt x≠none) {i} (hi:V i):
  Bo p q s (cf i)↔∀r k:Nat,r<p.rules.length->(k:Int)<s.n-s.f->K3 p s V cf e pt (pt i) r k:=by
 refine forall_congr' fun r=>forall_congr' fun k=>forall_congr' fun _=>forall_congr' fun _=>or_congr ⟨?_,?_⟩ ⟨?_,?_⟩
 ·rintro⟨d,h,hf⟩
  obtain⟨⟨l,w⟩,w'⟩:=h
  obtain⟨j,hj,rfl⟩:=G.all d ((G.av i hi).go w)
  exact⟨j,hj,((G.mu K ha hi hj).2 ⟨⟨l,w⟩,w'⟩).symm,hf⟩
 ·rintro⟨j,hj,h,hf⟩
  exact⟨cf j,(G.mu K ha hi hj).1 h.symm,hf⟩
 ·rintro⟨d,x,d',h,h',h'',h3⟩
  obtain⟨⟨l,w⟩,w'⟩:=h
  obtain⟨j,hj,rfl⟩:=G.all d ((G.av i hi).go w)
  obtain⟨j',hj',rfl⟩:=G.all d' ((G.av j hj).stp h')
  exact⟨j,x,j',hj,((G.mu K ha hi hj).2 ⟨⟨l,w⟩,w'⟩).symm,(G.edg _ _ _ hj).2 ⟨hj',h'⟩,((G.mu K ha hi hj').2 h'').symm,h3⟩
 ·rintro⟨j,x,j',hj,h,h',h'',h3⟩
  have:=(G.edg _ _ _ hj).1 h'
  exact⟨cf j,x,cf j',(G.mu K ha hi hj).1 h.symm,this.2,(G.mu K ha hi this.1).1 h''.symm,h3⟩
theorem ym.any (G:ym p q s V cf e) {n pt} (K:KP V (fun a b=>∃x,e a x b) n pt) (ha:∀x,V x->pt x≠none):
  (∃c,tj p q s c/\Bo p q s c)↔∃i,V i/\∀r k:Nat,r<p.rules.length->(k:Int)<s.n-s.f->K3 p s V cf e pt (pt i) r k:=by
 constructor
 ·rintro⟨c,h,k⟩
  obtain⟨i,hi,rfl⟩:=G.all c h
  exact⟨i,hi,(G.fair K ha hi).1 k⟩
 ·rintro⟨i,hi,k⟩
  exact⟨_,G.av i hi,(G.fair K ha hi).2 k⟩
theorem F1.kp {E:Nat->List Nat} {t:TS} (g:F1 E t) {V:Nat->Prop} {R:Nat->Nat->Prop} (hV:∀i,V i↔t.pt i≠none) (hR:∀i j,V i->(R i j↔j∈E i)):KP V R t.inn.length t.pt where
 on x h:=(hV x).2 h
 lt x k h:=by
  obtain⟨l,hl,_⟩:=(g.me k x).1 h
  exact(List.getElem?_eq_some_iff.1 hl).1
 mu x y hx e:=by
  have:∀{x y},Rc E x y->V x->jD R x y:=by
   intro x y h
   induction h with
   |refl=>exact fun _=>.refl _
   |step k _ ih=>exact fun hv=>.step ((hR _ _ hv).2 k) (ih ((hV _).2 (g.cl _ ((hV _).1 hv) _ k)))
  exact this (g.mu x y hx e) ((hV x).2 hx)
 mx x y hx h k:=by
  have:∀{x y},jD R x y->V x->Rc E x y/\V y:=by
   intro x y h
   induction h with
   |refl=>exact fun hv=>⟨.refl _,hv⟩
   |step k _ ih=>
    intro hv
    have k:=(hR _ _ hv).1 k
    have:=ih ((hV _).2 (g.cl _ ((hV _).1 hv) _ k))
    exact⟨.step k this.1,this.2⟩
  have a:=this h ((hV x).2 hx)
  exact g.mx x y hx a.1 (this k a.2).1
end
end
section
section
variable {p:ao} {q:bn} {s:az} {V:Nat->Prop} {cf:Nat->ap} {e:Nat->aQ->Nat->Prop} {pt:Nat->Option Nat}
structure tk (e:Nat->aQ->Nat->Prop) (pt:Nat->Option Nat) (a:Nat) (fd:List Nat) (F:Int->Option Int) (B:Int->Option aQ) (h:Nat) (D:aQ->Nat->Prop):Prop where
 hd:0<fd.length/\fd.getD 0 0=a
 dom:∀z:Int,F z≠none↔∃x∈fd,z=(x:Int)
 prev:∀j,0<j->j<fd.length->∃i x,i<j/\F (fd.getD j 0:Nat)=some ((fd.getD i 0:Nat):Int)/\B (fd.getD j 0:Nat)=some x/\e (fd.getD i 0) x (fd.getD j 0)
 part:∀x∈fd,pt x=pt a
 nd:fd.Nodup
 le:h<=fd.length
 clo:∀i,i<h->∀x y,e (fd.getD i 0) x y->pt y=pt a->y∈fd
 cur:∀x y,D x y->pt y=pt a->y∈fd
theorem dX {l:List Nat} {i:Nat} (h:i<l.length):l.getD i 0∈l:=by
 rw[gD,gL h];exact List.getElem_mem h
theorem j8 {l:List Nat} {x:Nat} (h:x∈l):∃i,i<l.length/\l.getD i 0=x:=by
 obtain⟨i,hi,rfl⟩:=List.mem_iff_getElem.1 h
 exact⟨i,hi,by rw[gD,gL hi];rfl⟩
theorem gu {l m:List Nat} {i:Nat} (h:i<l.length):(l++m).getD i 0=l.getD i 0:=by
 rw[gD,gD,List.getElem?_append_left h]
theorem tk.zero (a:Nat):tk e pt a [a] (fJ (fun _=>none) (a:Int) (a:Int)) (fun _=>none) 0 (fun _ _=>False) where
 hd:=⟨by simp,rfl⟩
 dom z:=by
  by_cases h:z=(a:Int)
  ·simp[fJ,h]
  ·simp[fJ,h]
 prev j h1 h2:=by simp at h2;omega
 part x hx:=by rw[List.mem_singleton.1 hx]
 nd:=by simp
 le:=Nat.zero_le _
 clo i hi:=absurd hi (Nat.not_lt_zero _)
 cur _ _ h:=h.elim
theorem tk.add {a fd F B h D} {x:aQ} {y:Nat} (I:tk e pt a fd F B h D) (hh:h<fd.length) (he:e (fd.getD h 0) x y) (hn:F (y:Int)=none) (hp:pt y=pt a):
  tk e pt a (fd++[y]) (fJ F (y:Int) ((fd.getD h 0:Nat):Int)) (fJ B (y:Int) x) h (fun x' y'=>D x' y'\/y'=y) where
 hd:=⟨by simp,by rw[gu I.hd.1];exact I.hd.2⟩
 dom z:=by
  by_cases hz:z=(y:Int)
  ·simp[fJ,hz]
  ·rw[fJ,if_neg hz,I.dom]
   constructor
   ·rintro⟨x,hx,rfl⟩;exact⟨x,List.mem_append_left _ hx,rfl⟩
   ·rintro⟨x,hx,rfl⟩
    rcases List.mem_append.1 hx with hx|hx
    ·exact⟨x,hx,rfl⟩
    ·exact absurd (by rw[List.mem_singleton.1 hx]) hz
 prev j h1 h2:=by
  have hny:y∉fd:=fun k=>(I.dom y).2 ⟨y,k,rfl⟩ hn
  by_cases hj:j<fd.length
  ·obtain⟨i,x,h3,h4,h5,h6⟩:=I.prev j h1 hj
   have hne:((fd.getD j 0:Nat):Int)≠(y:Int):=fun k=>hny (by
    have:fd.getD j 0=y:=by omega
    rw[<-this];exact dX hj)
   refine⟨i,x,h3,?_⟩
   rw[gu hj,gu (by omega),fJ,fJ,if_neg hne,if_neg hne]
   exact⟨h4,h5,h6⟩
  ·have hj':j=fd.length:=by simp at h2;omega
   subst hj'
   have e0:(fd++[y]).getD fd.length 0=y:=by simp
   refine⟨h,x,hh,?_⟩
   rw[e0,gu hh,fJ,fJ,if_pos rfl,if_pos rfl]
   exact⟨rfl,rfl,he⟩
 part z hz:=by
  rcases List.mem_append.1 hz with hz|hz
  ·exact I.part z hz
  ·rw[List.mem_singleton.1 hz];exact hp
 nd:=by
  have hny:y∉fd:=fun k=>(I.dom y).2 ⟨y,k,rfl⟩ hn
  rw[List.nodup_append]
  exact⟨I.nd,by simp,fun a ha b hb e=>hny (by rw[<-List.mem_singleton.1 hb,<-e];exact ha)⟩
 le:=by simp;omega
 clo i hi x z hx hz:=List.mem_append_left _ (I.clo i hi x z (by rw[gu (by omega)] at hx;exact hx) hz)
 cur x' y' hD hz:=by
  rcases hD with hD|rfl
  ·exact List.mem_append_left _ (I.cur x' y' hD hz)
  ·simp
theorem tk.old {a fd F B h D} {x:aQ} {y:Nat} (I:tk e pt a fd F B h D) (hn:F ((y:Nat):Int)≠none\/pt y≠pt a):tk e pt a fd F B h (fun x' y'=>D x' y'\/x'=x/\y'=y):=
 {I with
  cur:=fun x' y' hD hz=>by
   rcases hD with hD|⟨rfl,rfl⟩
   ·exact I.cur x' y' hD hz
   ·rcases hn with k|k
    ·obtain⟨w,hw,e⟩:=(I.dom _).1 k
     rwa [show y'=w by omega]
    ·exact absurd hz k}
theorem tk.weak {a fd F B h D} {D':aQ->Nat->Prop} (I:tk e pt a fd F B h D) (hD:∀x y,D' x y->D x y):tk e pt a fd F B h D':=
 {I with cur:=fun x y k=>I.cur x y (hD x y k)}
theorem tk.next {a fd F B h D} (I:tk e pt a fd F B h D) (hh:h<fd.length) (hD:∀x y,e (fd.getD h 0) x y->D x y):tk e pt a fd F B (h+1) (fun _ _=>False):=
 {I with
  le:=hh
  clo:=fun i hi x y k hz=>by
   by_cases h':i<h
   ·exact I.clo i h' x y k hz
   ·obtain rfl:i=h:=by omega
    exact I.cur x y (hD x y k) hz
  cur:=fun _ _ k=>k.elim}
theorem tk.all {a fd F B n D} (I:tk e pt a fd F B fd.length D) (G:ym p q s V cf e) (K:KP V (fun a b=>∃x,e a x b) n pt) (ha:∀x,V x->pt x≠none) (hV:V a) {b} (hb:V b) (hp:pt b=pt a):b∈fd:=by
 have key:∀{x},jD (fun a b=>∃x,e a x b) x b->jD (fun a b=>∃x,e a x b) a x->V x->x∈fd->b∈fd:=by
  intro x h
  induction h with
  |refl=>exact fun _ _ h=>h
  |@step x y z k t ih=>
   intro h1 h2 h3
   have hy:V y:=(G.walk (.step k (.refl _)) h2).1
   have ay:jD (fun a b=>∃x,e a x b) a y:=h1.trans (.step k (.refl _))
   refine ih hb hp ay hy ?_
   have py:pt y=pt a:=K.mx a y (ha a hV) ay (t.trans (K.mu z a (ha z hb) hp))
   obtain⟨w,k⟩:=k
   obtain⟨i,hi,rfl⟩:=j8 h3
   exact I.clo i hi w y k py
 exact key (K.mu a b (ha a hV) hp.symm) (.refl _) hV (by rw[<-I.hd.2];exact dX I.hd.1)
theorem tk.back {a fd F B h D j l b} (I:tk e pt a fd F B h D) (G:ym p q s V cf e) (hV:∀x∈fd,V x) (hj:j<fd.length) (hne:fd.getD j 0≠a) (hw:Gw p q s (cf (fd.getD j 0)) l b):
  ∃i x,i<j/\F (fd.getD j 0:Nat)=some ((fd.getD i 0:Nat):Int)/\B (fd.getD j 0:Nat)=some x/\Gw p q s (cf (fd.getD i 0)) (x::l) b:=by
 have h0:0<j:=Nat.pos_of_ne_zero fun k=>hne (by rw[k];exact I.hd.2)
 obtain⟨i,x,h1,h2,h3,h4⟩:=I.prev j h0 hj
 exact⟨i,x,h1,h2,h3, .cons ((G.edg _ _ _ (hV _ (dX (by omega)))).1 h4).2 hw⟩
structure zX (p:ao) (q:bn) (s:az) (V:Nat->Prop) (cf:Nat->ap) (pt:Nat->Option Nat) (st:Nat) (ks:List (Int×Int)) (loop:List aQ) (at_:Nat):Prop where
 v:V at_/\pt at_=pt st
 w:Gw p q s (cf st) loop (cf at_)
 f:∀k∈ks,(∃x∈loop,x.rule=k.1/\x.process=k.2)\/∃d l1 l2,loop=l1++l2/\Gw p q s (cf st) l1 d/\¬xJ p s d k.1 k.2
theorem zX.zero {st} (h:V st):zX p q s V cf pt st [] [] st:=⟨⟨h,rfl⟩, .nil _,fun _ h=>nomatch h⟩
theorem zX.go {st ks loop i j l} (I:zX p q s V cf pt st ks loop i) (hj:V j/\pt j=pt st) (hl:Gw p q s (cf i) l (cf j)):zX p q s V cf pt st ks (loop++l) j where
 v:=hj
 w:=I.w.app hl
 f k hk:=by
  rcases I.f k hk with ⟨x,hx,h⟩|⟨d,l1,l2,rfl,h1,h2⟩
  ·exact .inl ⟨x,List.mem_append_left _ hx,h⟩
  ·exact .inr ⟨d,l1,l2++l,by simp,h1,h2⟩
theorem zX.free {st ks loop i} (I:zX p q s V cf pt st ks loop i) {k:Int×Int} (h:¬xJ p s (cf i) k.1 k.2):zX p q s V cf pt st (ks++[k]) loop i:=
 {I with
  f:=fun k' hk=>by
   rcases List.mem_append.1 hk with hk|hk
   ·exact I.f k' hk
   ·rw[List.mem_singleton.1 hk]
    exact .inr ⟨cf i,loop,[],by simp,I.w,h⟩}
theorem zX.took {st ks loop i j x} (I:zX p q s V cf pt st ks loop i) (G:ym p q s V cf e) (he:e i x j) (hj:pt j=pt st) {k:Int×Int} (h:x.rule=k.1/\x.process=k.2):zX p q s V cf pt st (ks++[k]) (loop++[x]) j:=by
 have:=(G.edg _ _ _ I.v.1).1 he
 have J:=I.go ⟨this.1,hj⟩ (.cons this.2 (.nil _))
 refine{J with f:=fun k' hk=>?_}
 rcases List.mem_append.1 hk with hk|hk
 ·exact J.f k' hk
 ·rw[List.mem_singleton.1 hk]
  exact .inl ⟨x,by simp,h⟩
theorem zX.done {st ks loop} (I:zX p q s V cf pt st ks loop st) {a:ap} {pre:List aQ} (h1:dB p q s=0) (h2:q.kind=2) (h3:lH p q s a) (h4:¬c8 q a) (hp:Gw p q s a pre (cf st))
  (hk:∀r i:Nat,r<p.rules.length->(i:Int)<s.n-s.f->((r:Int),(i:Int))∈ks):te p q s (c8 q) ⟨a,pre,loop⟩:=
 KZ h1 h2 h3 h4 hp I.w fun r i hr hi=>I.f _ (hk r i hr hi)
end
end
section
structure gP where
 to:Int
 stp:aQ
def gW:gP:=⟨0,aR⟩
section
variable {p:ao} {q:bn} {s:az}
theorem zY (S:fV p q s) {y:iV} (h:mH p q s true y) {o:cS} (ho:eH p q s (y.1++[o])):
  (∃m,co p true y.1 y.2 o=y.1++m)/\(∀z∈co p true y.1 y.2 o,z∈y.1\/z=o)/\
   ∃j:Nat,jZ p true y.1 y.2 o=(j:Int)/\j<(co p true y.1 y.2 o).length/\(bu (co p true y.1 y.2 o) j).c=o.c:=by
 have hso:mZ o.c:=by
  have:=ho.rdy S (i:=y.1.length) (by simp)
  rw[iT] at this
  exact this.sml
 cases hf:y.2 (ij (eV p true o.c)) with
 |some v=>
  have e1:co p true y.1 y.2 o=y.1:=by simp only[co,hf]
  have e3:jZ p true y.1 y.2 o=v:=by simp only[jZ,hf]
  rw[e1,e3]
  obtain⟨j,hj,rfl,hk⟩:=h.sr.of_ _ _ hf
  exact⟨⟨[],(List.append_nil _).symm⟩,fun z hz=>.inl hz,j,rfl,hj,yb (h.og.rdy S hj).sml hso hk⟩
 |none=>
  have e1:co p true y.1 y.2 o=y.1++[o]:=by simp only[co,hf]
  have e3:jZ p true y.1 y.2 o=(y.1.length:Int):=by simp only[jZ,hf]
  rw[e1,e3]
  refine⟨⟨_,rfl⟩,fun z hz=>?_,y.1.length,rfl,by simp,by rw[iT]⟩
  rcases List.mem_append.1 hz with hz|hz
  ·exact .inl hz
  ·exact .inr (List.mem_singleton.1 hz)
structure XpI (p:ao) (q:bn) (s:az) (y:iV) (es:List (List gP)):Prop where
 se:mH p q s true y
 nr:∀o∈y.1,¬c8 q o.c
 ini:∀c,lH p q s c->¬c8 q c->∃i,i<y.1.length/\(bu y.1 i).c=c
 le:es.length<=y.1.length
 ed:∀k,k<es.length->∀e∈es.getD k [],∃j:Nat,e.to=(j:Int)/\j<y.1.length/\sB p q s (bu y.1 k).c e.stp (bu y.1 j).c
 al:∀k,k<es.length->∀x,cz p s (bu y.1 k).c x false->¬c8 q (cb (bu y.1 k).c (aH p x) x)->∃e∈es.getD k [],e.stp=x
structure F6 (p:ao) (q:bn) (s:az) (y:iV) (es:List (List gP)) (out:List gP) (pre:List aQ):Prop extends XpI p q s y es where
 lt:es.length<y.1.length
 ou:∀e∈out,∃j:Nat,e.to=(j:Int)/\j<y.1.length/\sB p q s (bu y.1 es.length).c e.stp (bu y.1 j).c
 oa:∀x∈pre,¬c8 q (cb (bu y.1 es.length).c (aH p x) x)->∃e∈out,e.stp=x
theorem XpI.opn {y es} (h:XpI p q s y es) (hl:es.length<y.1.length):F6 p q s y es [] []:={h with lt:=hl,ou:=fun _ h=>(nomatch h),oa:=fun _ h=>(nomatch h)}
theorem XpI.met (S:fV p q s) {y es} (h:XpI p q s y es) {o:cS} (ho:eH p q s (y.1++[o])) (hn:¬c8 q o.c):XpI p q s (co p true y.1 y.2 o,i7 p true y.1 y.2 o) es:=by
 obtain⟨⟨m,em⟩,hm,_⟩:=zY S h.se ho
 have hs:=(h.se.met S ho).2
 have eo:∀i,i<y.1.length->bu (co p true y.1 y.2 o) i=bu y.1 i:=fun i hi=>by rw[em];exact dl hi
 have el:y.1.length<=(co p true y.1 y.2 o).length:=by rw[em,List.length_append];omega
 have hle:=h.le
 refine⟨hs,fun z hz=>?_,fun c h1 h2=>?_,Nat.le_trans hle el,fun k hk e he=>?_,fun k hk x=>?_⟩
 ·rcases hm z hz with hz|rfl
  ·exact h.nr z hz
  ·exact hn
 ·obtain⟨i,hi,e⟩:=h.ini c h1 h2
  exact⟨i,Nat.lt_of_lt_of_le hi el,by rw[<-e];exact congrArg cS.c (eo i hi)⟩
 ·obtain⟨j,h1,h2,h3⟩:=h.ed k hk e he
  refine⟨j,h1,Nat.lt_of_lt_of_le h2 el,?_⟩
  show sB p q s (bu (co p true y.1 y.2 o) k).c _ (bu (co p true y.1 y.2 o) j).c
  rw[eo k (by omega),eo j h2];exact h3
 ·show cz p s (bu (co p true y.1 y.2 o) k).c x false->¬c8 q (cb (bu (co p true y.1 y.2 o) k).c (aH p x) x)->_
  rw[eo k (by omega)]
  exact h.al k hk x
theorem F6.skip {y es out pre x} (h:F6 p q s y es out pre) (hr:c8 q (cb (bu y.1 es.length).c (aH p x) x)):F6 p q s y es out (pre++[x]):=
 {h with
  oa:=fun z hz hn=>by
   rcases List.mem_append.1 hz with hz|hz
   ·exact h.oa z hz hn
   ·rw[List.mem_singleton.1 hz] at hn
    exact absurd hr hn}
theorem F6.step (S:fV p q s) {y es out pre x} (h:F6 p q s y es out pre) (he:cz p s (bu y.1 es.length).c x false) (ha:bo (bu y.1 es.length).c (aH p x) x)
  (hr:¬c8 q (cb (bu y.1 es.length).c (aH p x) x)) {o:cS} (eo:o=⟨cb (bu y.1 es.length).c (aH p x) x,(es.length:Int),x⟩):
  F6 p q s (co p true y.1 y.2 o,i7 p true y.1 y.2 o) es (out++[⟨jZ p true y.1 y.2 o,x⟩]) (pre++[x]):=by
 have ho:eH p q s (y.1++[o]):=by rw[eo];exact h.se.og.stp h.lt he ha
 obtain⟨⟨m,em⟩,hm,j,ej,hj,ec⟩:=zY S h.se ho
 have hI:=h.toXpI.met S ho (by rw[eo];exact hr)
 have e1:∀i,i<y.1.length->bu (co p true y.1 y.2 o) i=bu y.1 i:=fun i hi=>by rw[em];exact dl hi
 have el:y.1.length<=(co p true y.1 y.2 o).length:=by rw[em,List.length_append];omega
 refine{hI with lt:=Nat.lt_of_lt_of_le h.lt el,ou:=fun e hx=>?_,oa:=fun z hz=>?_}
 ·show∃j:Nat,e.to=(j:Int)/\j<(co p true y.1 y.2 o).length/\sB p q s (bu (co p true y.1 y.2 o) es.length).c e.stp (bu (co p true y.1 y.2 o) j).c
  rw[e1 _ h.lt]
  rcases List.mem_append.1 hx with hx|hx
  ·obtain⟨j,h1,h2,h3⟩:=h.ou e hx
   exact⟨j,h1,Nat.lt_of_lt_of_le h2 el,by rw[e1 j h2];exact h3⟩
  ·rw[List.mem_singleton.1 hx]
   exact⟨j,ej,hj,by rw[ec,eo];exact⟨he,ha,rfl,hr⟩⟩
 ·show¬c8 q (cb (bu (co p true y.1 y.2 o) es.length).c (aH p z) z)->_
  rw[e1 _ h.lt]
  intro hn
  rcases List.mem_append.1 hz with hz|hz
  ·obtain⟨e,h1,h2⟩:=h.oa z hz hn
   exact⟨e,List.mem_append_left _ h1,h2⟩
  ·rw[List.mem_singleton.1 hz]
   exact⟨⟨jZ p true y.1 y.2 o,x⟩,List.mem_append_right _ (List.mem_singleton.2 rfl),rfl⟩
theorem m5 {es:List (List gP)} {out:List gP} {k:Nat}:(es++[out]).getD k []=if k<es.length then es.getD k [] else if k=es.length then out else[]:=cY
theorem F6.done {y es out pre} (h:F6 p q s y es out pre) (hp:∀x,cz p s (bu y.1 es.length).c x false->x∈pre):XpI p q s y (es++[out]):=by
 refine{h.toXpI with le:=by have:=h.lt;simp;omega,ed:=fun k hk=>?_,al:=fun k hk=>?_}
 ·rw[List.length_append,List.length_singleton] at hk
  rw[m5]
  by_cases c:k<es.length
  ·rw[if_pos c];exact h.ed k c
  ·obtain rfl:k=es.length:=by omega
   rw[if_neg c,if_pos rfl];exact h.ou
 ·rw[List.length_append,List.length_singleton] at hk
  rw[m5]
  by_cases c:k<es.length
  ·rw[if_pos c];exact h.al k c
  ·obtain rfl:k=es.length:=by omega
   rw[if_neg c,if_pos rfl]
   exact fun x hx=>h.oa x (hp x hx)
theorem XpI.av {y es} (h:XpI p q s y es):∀n i,i<n->i<y.1.length->tj p q s (bu y.1 i).c
 |n+1,i,hn,hi=>by
  have hr:=h.nr _ (aG d6 hi)
  rcases h.se.og i hi with ⟨_,k⟩|⟨j,hj,_,k1,k2,k3⟩
  ·exact .ini k hr
  ·exact(h.av n j (by omega) (by omega)).stp ⟨k1,k2,k3,hr⟩
theorem XpI.gph {y es} (h:XpI p q s y es) (hl:es.length=y.1.length):ym p q s (fun i=>i<y.1.length) (fun i=>(bu y.1 i).c) (fun(i:Nat) (x:aQ) (j:Nat)=>(⟨(j:Int),x⟩:gP)∈es.getD i []):=by
 have inj:∀i j,i<y.1.length->j<y.1.length->(bu y.1 i).c=(bu y.1 j).c->i=j:=by
  intro i j hi hj e
  have h1:=h.se.sr.at_ i hi
  have h2:=h.se.sr.at_ j hj
  have e:(y.1.getD i d6).c=(y.1.getD j d6).c:=e
  rw[e,h2] at h1
  simp only[Option.some.injEq] at h1
  omega
 have edg:∀(i:Nat) (x:aQ) (j:Nat),i<y.1.length->((⟨(j:Int),x⟩:gP)∈es.getD i []↔j<y.1.length/\sB p q s (bu y.1 i).c x (bu y.1 j).c):=by
  intro i x j hi
  constructor
  ·intro he
   obtain⟨j',e1,h1,h2⟩:=h.ed i (by omega) _ he
   have e1:(j:Int)=(j':Int):=e1
   obtain rfl:j=j':=by omega
   exact⟨h1,h2⟩
  ·rintro⟨h1,h2⟩
   have h2':=h2
   obtain⟨a1,a2,a3,a4⟩:=h2
   obtain⟨⟨t,x'⟩,he,ex⟩:=h.al i (by omega) x a1 (by rw[<-a3];exact a4)
   have ex:x'=x:=ex
   subst ex
   obtain⟨j',e1,b1,b2⟩:=h.ed i (by omega) _ he
   have e1:t=(j':Int):=e1
   have:j=j':=inj j j' h1 b1 (by rw[a3,<-b2.2.2.1])
   rw[this,<-e1];exact he
 refine⟨fun i hi=>h.av _ i (Nat.lt_succ_self i) hi,fun c hc=>?_,inj,edg⟩
 induction hc with
 |ini h1 h2=>exact h.ini _ h1 h2
 |@stp c x d _ hs ih=>
  obtain⟨i,hi,rfl⟩:=ih
  obtain⟨e,he,ex⟩:=h.al i (by omega) x hs.1 (by rw[<-hs.2.2.1];exact hs.2.2.2)
  obtain⟨j,_,b1,b2⟩:=h.ed i (by omega) _ he
  refine⟨j,b1,?_⟩
  show(bu y.1 j).c=d
  rw[b2.2.2.1,hs.2.2.1,ex]
theorem XpI.chain {y es} (h:XpI p q s y es) {i r xs} (hc:cP y.1 i r xs):i<y.1.length->lH p q s (bu y.1 r).c/\¬c8 q (bu y.1 r).c/\Gw p q s (bu y.1 r).c xs (bu y.1 i).c:=by
 induction hc with
 |@root i e=>
  intro hi
  refine⟨?_,h.nr _ (aG d6 hi), .nil _⟩
  rcases h.se.og i hi with ⟨_,k⟩|⟨j,_,k,_⟩
  ·exact k
  ·rw[e] at k;omega
 |@step i j r xs hj e _ ih=>
  intro hi
  obtain⟨h1,h2,h3⟩:=ih (by omega)
  refine⟨h1,h2,h3.app (.cons ?_ (.nil _))⟩
  rcases h.se.og i hi with ⟨k,_⟩|⟨j',_,k,k1,k2,k3⟩
  ·rw[e] at k;omega
  ·have:j=j':=by rw[e] at k;omega
   subst this
   exact⟨k1,k2,k3,h.nr _ (aG d6 hi)⟩
end
end
section
structure lS (p:ao) (q:bn) (s:az) (l:List ap) (ss:List (List aQ)) (tt:List (List Int)):Prop where
 nd:l.Nodup
 rp:∀c∈l,∃n,Wn p q s n c
 ini:∀c,lH p q s c->c∈l
 le:ss.length<=l.length
 tl:tt.length=ss.length
 st:∀k,k<ss.length->∀x,cz p s (l.getD k aC) x false->x∈ss.getD k []
 ed:∀k,k<ss.length->(tt.getD k []).length=(ss.getD k []).length/\∀m,m<(ss.getD k []).length->∃j:Nat,(tt.getD k []).getD m 0=(j:Int)/\j<l.length/\
  cz p s (l.getD k aC) ((ss.getD k []).getD m aR) false/\bo (l.getD k aC) (aH p ((ss.getD k []).getD m aR)) ((ss.getD k []).getD m aR)/\
  l.getD j aC=cb (l.getD k aC) (aH p ((ss.getD k []).getD m aR)) ((ss.getD k []).getD m aR)
def jr (tt:List (List Int)) (i:Nat):List Nat:=(tt.getD i []).map Int.toNat
noncomputable def qm (q:bn) (l:List ap) (i:Nat):Bool:=decide (c8 q (l.getD i aC))
def eK (q:bn) (l:List ap) (ss:List (List aQ)) (tt:List (List Int)) (i:Nat) (x:aQ) (j:Nat):Prop:=
 ∃m,m<(ss.getD i []).length/\(ss.getD i []).getD m aR=x/\(tt.getD i []).getD m 0=(j:Int)/\qm q l j=false
section
variable {p:ao} {q:bn} {s:az} {l:List ap} {ss:List (List aQ)} {tt:List (List Int)}
theorem sC {l:List ap} (h:l.Nodup) {i j:Nat} (hi:i<l.length) (hj:j<l.length) (e:l.getD i aC=l.getD j aC):i=j:=by
 rw[gD,gD,gL hi,gL hj] at e
 have e:l[i]=l[j]:=e
 have hp:=List.pairwise_iff_getElem.1 h
 rcases Nat.lt_trichotomy i j with k|k|k
 ·exact absurd e (hp i j hi hj k)
 ·exact k
 ·exact absurd e.symm (hp j i hj hi k)
theorem qn (I:lS p q s l ss tt) {i j:Nat} (hi:i<ss.length):(j∈jr tt i/\qm q l j=false)↔∃x,eK q l ss tt i x j:=by
 obtain⟨hl,hm⟩:=I.ed i hi
 constructor
 ·rintro⟨h,hx⟩
  obtain⟨z,hz,rfl⟩:=List.mem_map.1 h
  obtain⟨m,hm',rfl⟩:=bp (0:Int) hz
  obtain⟨j,e,_⟩:=hm m (by omega)
  refine⟨_,m,by omega,rfl,?_,hx⟩
  rw[e];rfl
 ·rintro⟨x,m,hm',_,e,hx⟩
  refine⟨List.mem_map.2 ⟨(tt.getD i []).getD m 0,aG 0 (by omega),?_⟩,hx⟩
  rw[e];rfl
theorem ot {j:Nat}:qm q l j=false↔¬c8 q (l.getD j aC):=by simp[qm]
theorem lS.edg (I:lS p q s l ss tt) (hl:ss.length=l.length) {i j:Nat} {x:aQ} (hi:i<l.length):eK q l ss tt i x j↔j<l.length/\sB p q s (l.getD i aC) x (l.getD j aC):=by
 obtain⟨h1,h2⟩:=I.ed i (by omega)
 constructor
 ·rintro⟨m,hm,rfl,e,hx⟩
  obtain⟨j',e',a1,a2,a3,a4⟩:=h2 m hm
  obtain rfl:j=j':=by rw[e] at e';omega
  exact⟨a1,a2,a3,a4,ot.1 hx⟩
 ·rintro⟨hj,a2,a3,a4,hx⟩
  obtain⟨m,hm,e⟩:=bp aR (I.st i (by omega) x a2)
  obtain⟨j',e',b1,b2,b3,b4⟩:=h2 m hm
  rw[e,<-a4] at b4
  obtain rfl:=sC I.nd b1 hj b4
  exact⟨m,hm,e,e',ot.2 hx⟩
theorem lS.gph (I:lS p q s l ss tt) (hl:ss.length=l.length) {ks:List Nat} (h1:∀c,lH p q s c->∃k∈ks,l.getD k aC=c) (h2:∀k∈ks,k<l.length/\lH p q s (l.getD k aC))
  {t:KS} (hv:Kv (jr tt) ks ⟨qm q l,[]⟩ t):
  ym p q s (fun i=>i∈t.od) (fun i=>l.getD i aC) (eK q l ss tt)/\KG (jr tt) (qm q l) t/\(∀x∈t.od,x<l.length)/\∀x,t.se x=true↔qm q l x=true\/x∈t.od:=by
 have g0:KG (jr tt) (qm q l) ⟨qm q l,[]⟩:=⟨fun _ h=>h,fun _ h=>(nomatch h),fun _ h=>(nomatch h),fun A r B e=>by cases A<;>cases e⟩
 obtain⟨g,N,e1,e2,e3,e4,e5⟩:=hv.good g0
 have e1:t.od=N:=by rw[e1];rfl
 subst e1
 have e2:∀x,t.se x=true↔qm q l x=true\/x∈t.od:=e2
 have hin:∀{x y},jD (MR (jr tt) (qm q l)) x y->x<l.length->tj p q s (l.getD x aC)->y<l.length/\tj p q s (l.getD y aC):=by
  intro x y h
  induction h with
  |refl=>exact fun a b=>⟨a,b⟩
  |@step x y z e _ ih=>
   intro a b
   obtain⟨w,hw⟩:=(qn I (by omega)).1 e
   have:=(I.edg hl a).1 hw
   exact ih this.1 (b.stp this.2)
 have hV:∀x∈t.od,x<l.length/\tj p q s (l.getD x aC):=by
  intro x hx
  obtain⟨y,hy,hs,r⟩:=e5 x hx
  obtain⟨a,b⟩:=h2 y hy
  exact hin r a (.ini b (ot.1 hs))
 have hmem:∀x,t.se x=true->qm q l x=false->x∈t.od:=by
  intro x a b
  rcases(e2 x).1 a with k|k
  ·rw[b] at k;cases k
  ·exact k
 refine⟨⟨fun i hi=>(hV i hi).2,fun c hc=>?_,fun i j hi hj e=>sC I.nd (hV i hi).1 (hV j hj).1 e,fun i x j hi=>?_⟩,g,fun x hx=>(hV x hx).1,e2⟩
 ·induction hc with
  |@ini c a b=>
   obtain⟨k,hk,rfl⟩:=h1 c a
   exact⟨k,hmem k (e4 k hk) (ot.2 b),rfl⟩
  |@stp c x d _ hs ih=>
   obtain⟨i,hi,rfl⟩:=ih
   have hil:=(hV i hi).1
   obtain⟨m,hm,e⟩:=bp aR (I.st i (by omega) x hs.1)
   obtain⟨j,e',b1,b2,b3,b4⟩:=(I.ed i (by omega)).2 m hm
   have ed:l.getD j aC=d:=by rw[b4,e,hs.2.2.1]
   have hx:qm q l j=false:=ot.2 (by rw[ed];exact hs.2.2.2)
   have hj:j∈jr tt i:=((qn I (by omega)).2 ⟨x,m,hm,e,e',hx⟩).1
   exact⟨j,hmem j (g.cl i hi j hj) hx,ed⟩
 ·rw[I.edg hl (hV i hi).1]
  constructor
  ·rintro⟨a,b⟩
   refine⟨?_,b⟩
   have hw:=(I.edg hl (hV i hi).1).2 ⟨a,b⟩
   have:=(qn I (by have:=(hV i hi).1;omega)).2 ⟨x,hw⟩
   exact hmem j (g.cl i hi j this.1) this.2
  ·rintro⟨a,b⟩;exact⟨(hV j a).1,b⟩
theorem lS.parts (I:lS p q s l ss tt) (hl:ss.length=l.length) {t:KS} (g:KG (jr tt) (qm q l) t) (hin:∀x∈t.od,x<l.length) (hse:∀x,t.se x=true↔qm q l x=true\/x∈t.od)
  {bk:Nat->List Nat} (hb:∀i j,i∈bk j↔i∈t.od/\j∈t.od/\j∈jr tt i) {n:Nat} {pt:Nat->Option Nat} (hc:Kc bk t.od.reverse 0 (fun _=>none) n pt):
  KP (fun i=>i∈t.od) (fun a b=>∃x,eK q l ss tt a x b) n pt/\(∀x,x∈t.od->pt x≠none)/\n<=t.od.length:=by
 have hR:∀i j,i∈t.od->((∃x,eK q l ss tt i x j)↔j∈jr tt i/\qm q l j=false):=fun i j hi=>(qn I (by have:=hin i hi;omega)).symm
 have hcl:∀i j,i∈t.od->j∈jr tt i->qm q l j=false->j∈t.od:=by
  intro i j hi hj hx
  rcases(hse j).1 (g.cl i hi j hj) with k|k
  ·rw[hx] at k;cases k
  ·exact k
 have:=hc.good (V:=fun i=>i∈t.od) (R:=fun a b=>∃x,eK q l ss tt a x b) (fun i j=>?_) (fun i j hi h=>?_) (A:=t.od) (fun _=>.rfl) (D:=[]) (by simp) (fun _ h=>(nomatch h)) (fun A1 r B e x h=>?_)
  ⟨fun x h=>absurd rfl h,fun x k h=>(nomatch h),fun x y h=>absurd rfl h,fun x y h=>absurd rfl h⟩
 ·refine⟨this.1,this.2.1,?_⟩
  have:=this.2.2
  rw[List.length_reverse] at this
  omega
 ·rw[hb]
  constructor
  ·rintro⟨a,b,c⟩;exact⟨a,b,(hR i j a).2 ⟨c,(g.on j b).2⟩⟩
  ·rintro⟨a,b,c⟩;exact⟨a,b,((hR i j a).1 c).1⟩
 ·have:=(hR i j hi).1 h
  exact hcl i j hi this.1 this.2
 ·have hA:∀z,z∈A1\/z=r->z∈t.od:=by
   intro z hz
   rw[e]
   rcases hz with hz|rfl
   ·exact List.mem_append_left _ hz
   ·exact List.mem_append_right _ List.mem_cons_self
  have h':jD (NP (jr tt) fun z=>z∈A1\/z=r) x r:=h.mono fun a b hh=>⟨hh.1,hh.2.1,((hR a b (hA a hh.1)).1 hh.2.2).1⟩
  have r':=g.ko A1 r B e x h'
  have key:∀{a b},jD (MR (jr tt) (qm q l)) a b->a∈t.od->jD (fun a b=>∃x,eK q l ss tt a x b) a b:=by
   intro a b h
   induction h with
   |refl=>exact fun _=>.refl _
   |step e _ ih=>exact fun ha=>.step ((hR _ _ ha).2 e) (ih (hcl _ _ ha e.1 e.2))
  exact key r' (hA r (.inr rfl))
end
end
section
def m6:um:=⟨aC,[],[]⟩
def F7 (p:ao) (q:bn) (s:az):Prop:=om p q s/\∃L,un p q s true L/\L.length<=4000
def Nk (p:ao) (q:bn) (s:az):Prop:=∃c,tj p q s c/\Bo p q s c
structure LaQ (p:ao) (q:bn) (s:az) (is:Bool) (e:Int):Prop where
 ok:F7 p q s->e=0/\(is=true↔Nk p q s)
 no:¬F7 p q s->e=4/\is=false
structure MS (p:ao) (q:bn) (s:az) (l:um) (is:Bool) (e:Int):Prop extends LaQ p q s is e where
 yes:is=true->te p q s (c8 q) l/\bc l.start=false/\l.pre.length<=4000/\l.loop.length<=100000000
 none:is=false->l=m6
theorem LaQ.one {p:ao} {q:bn} {s:az} {is is':Bool} {e e':Int} (h:LaQ p q s is e) (k:LaQ p q s is' e'):is=is'/\e=e':=by
 by_cases c:F7 p q s
 ·obtain⟨a,b⟩:=h.ok c
  obtain⟨a',b'⟩:=k.ok c
  refine⟨?_,by omega⟩
  have:=b.trans b'.symm
  cases is<;>cases is'<;>simp_all
 ·obtain⟨a,b⟩:=h.no c
  obtain⟨a',b'⟩:=k.no c
  exact⟨by rw[b,b'],by omega⟩
def GE (p:ao) (q:bn):List az->az->Bool->Int->Prop
 |[],z,is,e=>z=fF/\is=false/\e=0
 |a::zs,z,is,e=>∃is' e',LaQ p q a is' e'/\((e'≠0/\z=fF/\is=false/\e=e')\/(e'=0/\is'=true/\z=a/\is=true/\e=0)\/(e'=0/\is'=false/\GE p q zs z is e))
def Jm (p:ao) (q:bn):List az->az->um->Bool->Int->Prop
 |[],z,l,is,e=>z=fF/\l=m6/\is=false/\e=0
 |a::zs,z,l,is,e=>∃l' is' e',MS p q a l' is' e'/\((e'≠0/\z=fF/\l=m6/\is=false/\e=e')\/(e'=0/\is'=true/\z=a/\l=l'/\is=true/\e=0)\/(e'=0/\is'=false/\Jm p q zs z l is e))
theorem Jm.sq {p:ao} {q:bn}:∀{zs:List az} {z l is e},Jm p q zs z l is e->GE p q zs z is e/\(is=false->l=m6)/\(is=true->∃is' e',MS p q z l is' e'/\is'=true)
 |[],z,l,is,e,⟨h1,h2,h3,h4⟩=>⟨⟨h1,h3,h4⟩,fun _=>h2,fun h=>absurd (h3.symm.trans h) (by decide)⟩
 |a::zs,z,l,is,e,⟨l',is',e',h,k⟩=>by
  rcases k with ⟨k1,k2,k3,k4,k5⟩|⟨k1,k2,k3,k4,k5,k6⟩|⟨k1,k2,k3⟩
  ·exact⟨⟨is',e',h.toLaQ, .inl ⟨k1,k2,k4,k5⟩⟩,fun _=>k3,fun h=>absurd (k4.symm.trans h) (by decide)⟩
  ·subst k3;subst k4
   exact⟨⟨is',e',h.toLaQ, .inr (.inl ⟨k1,k2,rfl,k5,k6⟩)⟩,fun h=>absurd (k5.symm.trans h) (by decide),fun _=>⟨is',e',h,k2⟩⟩
  ·obtain⟨a,b,c⟩:=Jm.sq k3
   exact⟨⟨is',e',h.toLaQ, .inr (.inr ⟨k1,k2,a⟩)⟩,b,c⟩
theorem GE.one {p:ao} {q:bn}:∀{zs:List az} {z z' is is' e e'},GE p q zs z is e->GE p q zs z' is' e'->z=z'/\is=is'/\e=e'
 |[],_,_,_,_,_,_,⟨h1,h2,h3⟩,⟨k1,k2,k3⟩=>⟨by rw[h1,k1],by rw[h2,k2],by omega⟩
 |a::zs,z,z',is,is',e,e',⟨b,f,h,h'⟩,⟨b',f',k,k'⟩=>by
  obtain⟨eb,ef⟩:=h.one k
  subst eb;subst ef
  rcases h' with ⟨a1,a2,a3,a4⟩|⟨a1,a2,a3,a4,a5⟩|⟨a1,a2,a3⟩<;>rcases k' with ⟨b1,b2,b3,b4⟩|⟨b1,b2,b3,b4,b5⟩|⟨b1,b2,b3⟩
  ·exact⟨by rw[a2,b2],by rw[a3,b3],by omega⟩
  ·exact absurd b1 a1
  ·exact absurd b1 a1
  ·exact absurd a1 b1
  ·exact⟨by rw[a3,b3],by rw[a4,b4],by omega⟩
  ·rw[a2] at b2;cases b2
  ·exact absurd a1 b1
  ·rw[a2] at b2;cases b2
  ·exact GE.one a3 b3
end
end Go.Proofs.YtokjgegkhlkopaaGreatDoor
