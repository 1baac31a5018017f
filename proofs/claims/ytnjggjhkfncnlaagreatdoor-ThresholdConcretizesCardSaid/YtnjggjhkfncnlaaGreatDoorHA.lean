import Derived.Test.YtnjggjhkfncnlaaGreatDoorFtE
import Derived.Test.YtnjggjhkfncnlaaGreatDoorM6
import Derived.Test.YtnjggjhkfncnlaaGreatDoorGM
import Derived.Test.YtnjggjhkfncnlaaGreatDoorW3
set_option linter.unusedVariables false
set_option linter.unusedSimpArgs false
namespace Go.Proofs.YtnjggjhkfncnlaaGreatDoor
set_option maxRecDepth 100000
set_option maxHeartbeats 4000000
theorem nR (c d a:Co) (k:Int):∀l,eh (ba c k d) a l=eh c a l+k*eh d a l
 |[]=>by simp[eh]
 |v::l=>by
  rw[eh,eh,eh,nR c d a k l,Int.mul_add,<-Int.mul_assoc]
  show(c v+k*d v)*a v+_=_
  rw[Int.add_mul]
  omega
theorem qr {c d a:Co}:∀{l:List Vb},(∀v∈l,c v<=d v)->(∀v∈l,0<=a v)->eh c a l<=eh d a l
 |[],_,_=>Int.le_refl _
 |v::l,h,ha=>by
  have ih:=qr (l:=l) (fun x hx=>h x (List.mem_cons_of_mem _ hx)) fun x hx=>ha x (List.mem_cons_of_mem _ hx)
  have:=Int.mul_le_mul_of_nonneg_right (h v List.mem_cons_self) (ha v List.mem_cons_self)
  rw[eh,eh]
  omega
def tP (c:Co) (v0:Vb):Co:=fun v=>c v-if v=v0 then 1 else 0
theorem yO {c a:Co} {v0:Vb}:∀{l:List Vb},v0∈l->(∀v∈l,0<=a v)->eh (tP c v0) a l<=eh c a l-a v0
 |[],h,_=>by simp at h
 |v::l,h,ha=>by
  have ha':∀x∈l,0<=a x:=fun x hx=>ha x (List.mem_cons_of_mem _ hx)
  rw[eh,eh]
  by_cases e:v=v0
  ·subst e
   have hm:eh (tP c v) a l<=eh c a l:=qr (fun x _=>by unfold tP;split<;>omega) ha'
   have e1:tP c v v=c v-1:=by simp[tP]
   rw[e1,Int.sub_mul,Int.one_mul]
   omega
  ·have ih:=yO (c:=c) (a:=a) (l:=l) (by simpa[Ne.symm e] using h) ha'
   have e1:tP c v0 v=c v:=by simp[tP,e]
   rw[e1]
   omega
def vT (rs:List bp) (start fire:Int) (seg:Nat):Nat->Co
 |0=>zC
 |m+1=>ba (vT rs start fire seg m) 1 (cW rs start fire (m:Int) (seg+1) 0)
theorem yP (rs:List bp) (start fire:Int) (seg:Nat) (v:Vb):∀m,vT rs start fire seg m v=(if v.kind=start/\v.seg=0/\0<=v.idx/\v.idx<(m:Nat) then 1 else 0)+
  if fK rs.length fire (seg+1) 0 v then(if 0<=(rs.getD v.idx.toNat ar).dst/\(rs.getD v.idx.toNat ar).dst<(m:Nat) then 1 else 0)-(if 0<=(rs.getD v.idx.toNat ar).src/\(rs.getD v.idx.toNat ar).src<(m:Nat) then 1 else 0) else 0
 |0=>by
  rw[if_neg (by omega)]
  unfold vT zC
  split
  ·rw[if_neg (by omega),if_neg (by omega)];rfl
  ·rfl
 |m+1=>by
  have hv:v=⟨start,0,(m:Int)⟩↔v.kind=start/\v.seg=0/\v.idx=m:=⟨fun e=>by subst e;exact⟨rfl,rfl,rfl⟩,fun e=>lN e.1 e.2.1 e.2.2⟩
  show vT rs start fire seg m v+1*cW rs start fire (m:Int) (seg+1) 0 v=_
  rw[yP rs start fire seg v m]
  unfold cW It
  generalize (rs.getD v.idx.toNat ar).dst=y
  generalize (rs.getD v.idx.toNat ar).src=x
  have e1:(if v=⟨start,0,(m:Int)⟩ then(1:Int) else 0)=if v.kind=start/\v.seg=0/\v.idx=m then 1 else 0:=by simp only[hv]
  rw[e1]
  by_cases hf:fK rs.length fire (seg+1) 0 v
  ·rw[if_pos hf,if_pos hf,if_pos hf]
   (repeat' split)<;>omega
  ·rw[if_neg hf,if_neg hf,if_neg hf]
   (repeat' split)<;>omega
theorem DM {rs:List bp} {start fire:Int} {seg ns:Nat} {a:Co} {vars:List Vb} (h:∀x:Nat,x<ns->0<=eh (cW rs start fire (x:Int) (seg+1) 0) a vars):∀m,m<=ns->0<=eh (vT rs start fire seg m) a vars
 |0,_=>by rw[fF (c:=vT rs start fire seg 0) (fun v _=>rfl)];exact Int.le_refl _
 |m+1,hm=>by
  have ih:=DM h m (by omega)
  have:=h m (by omega)
  show 0<=eh (ba (vT rs start fire seg m) 1 (cW rs start fire (m:Int) (seg+1) 0)) a vars
  rw[nR]
  omega
theorem DN {p:au} {sch:List Int} {start fire:Int} {seg:Nat} {a:Co} {vars:List Vb} (ht:io p) (hs:start=3/\fire=5\/start=4/\fire=6)
  (hk:∀v∈vars,E8 p sch v) (ha:∀v∈vars,0<=a v) (hr:∀j,j<p.rules.length->0<=(p.rules.getD j ar).src/\(p.rules.getD j ar).src<p.states.length)
  (h:∀x:Nat,x<p.states.length->0<=eh (cW p.rules start fire (x:Int) (seg+1) 0) a vars) {j r:Nat} (hj:j<=seg) (hr0:r<p.rules.length) (hv0:(⟨fire,j,r⟩:Vb)∈vars):a ⟨fire,j,r⟩<=eh (jU start) a vars:=by
 have hsr:=hr r hr0
 obtain⟨m,hm⟩:∃m:Nat,(p.rules.getD r ar).src=m:=⟨(p.rules.getD r ar).src.toNat,by omega⟩
 have h1:=DM h (m+1) (by omega)
 have h2:eh (vT p.rules start fire seg (m+1)) a vars<=eh (tP (jU start) ⟨fire,j,r⟩) a vars:=by
  refine qr (fun v hv=>?_) ha
  rw[yP]
  have hkv:=hk v hv
  unfold tP jU
  by_cases hf:fK p.rules.length fire (seg+1) 0 v
  ·rw[if_pos hf]
   obtain⟨f1,f2,f3,f4⟩:=hf
   have hi:v.idx.toNat<p.rules.length:=by
    unfold E8 at hkv
    rcases hkv with (e|e|e)|hkv|hkv
    ·subst e;dsimp only at f1;omega
    ·subst e;dsimp only at f1;omega
    ·subst e;dsimp only at f1;omega
    ·omega
    ·omega
   have h3:=(ht.2.2 v.idx.toNat hi).2.1
   have h4:=hr v.idx.toNat hi
   rw[if_neg (by omega),if_neg (by omega:¬v.kind=start)]
   by_cases e:v=⟨fire,j,r⟩
   ·rw[if_pos e]
    have e2:v.idx.toNat=r:=by rw[e];exact tN r
    rw[e2] at h3 h4⊢
    rw[if_neg (by omega),if_pos (by omega)]
    decide
   ·rw[if_neg e]
    (repeat' split)<;>omega
  ·rw[if_neg hf]
   have hne:v≠⟨fire,j,r⟩:=fun e=>hf (by subst e;exact⟨rfl,by dsimp only;omega,by dsimp only;omega, .inl ⟨by dsimp only;omega,by dsimp only;omega⟩⟩)
   rw[if_neg hne]
   (repeat' split)<;>omega
 have h3:=yO (c:=jU start) hv0 ha
 omega
theorem r8 {c d a:Co}:∀{l:List Vb},(∀v∈l,c v=d v)->eh c a l=eh d a l
 |[],_=>rfl
 |v::l,h=>by rw[eh,eh,h v List.mem_cons_self,r8 (l:=l) fun x hx=>h x (List.mem_cons_of_mem _ hx)]
theorem vU {l:g7} {v:Vb} (h:3<=v.kind):bf l v=0:=by
 unfold bf
 rw[if_neg (fun e=>by subst e;dsimp only at h;omega),if_neg (fun e=>by subst e;dsimp only at h;omega),if_neg (fun e=>by subst e;dsimp only at h;omega)]
theorem DP {p:au} {q:aV} {sch:List Int} (l:g7) (a:Co):eh (bf l) a (ao p q sch)=l.n*a ⟨0,0,0⟩+l.t*a ⟨1,0,0⟩+l.f*a ⟨2,0,0⟩:=by
 unfold ao
 rw[jK,jK,fF (l:=qD p q) (fun v hv=>vU (by
  unfold qD at hv
  rcases List.mem_append.1 hv with hv|hv
  ·obtain⟨x,_,rfl⟩:=List.mem_map.1 hv;dsimp only;omega
  ·split at hv
   ·obtain⟨x,_,rfl⟩:=List.mem_map.1 hv;dsimp only;omega
   ·simp at hv)),fF (l:=(List.range (sch.length+1)).flatMap fun j=>bX p sch j p.rules.length) (fun v hv=>vU (by
  obtain⟨j,_,hv⟩:=List.mem_flatMap.1 hv
  obtain⟨r,_,hv⟩:=dK hv
  have:=(eX hv).1
  omega))]
 simp[eh,bf]
 omega
section
variable {p:au} {q:aV} {sch:List Int} {number:Int} {a:Co}
theorem H8 (h:aZ p q=0) {kind:Int} (hk:kind=3\/kind=4):eh (oq kind p.states.length) a (ao p q sch)=eh (jU kind) a (ao p q sch):=by
 refine r8 fun v hv=>?_
 have hv:=cN h hv
 unfold oq jU
 by_cases e:v.kind=kind
 ·rw[if_pos e]
  unfold E8 at hv
  rcases hv with (e2|e2|e2)|hv|hv
  ·subst e2;dsimp only at e;omega
  ·subst e2;dsimp only at e;omega
  ·subst e2;dsimp only at e;omega
  ·rw[if_pos ⟨e,hv.2⟩]
  ·omega
 ·rw[if_neg e,if_neg (fun hh=>e hh.1)]
theorem yQ (h:aZ p q=0) {kind:Int} (hk:kind=3\/kind=4) {l:g7} (hl:l.c=0)
  (h1:0<=(fh kind p.states.length 1 l).2+eh (fh kind p.states.length 1 l).1 a (ao p q sch))
  (h2:0<=(fh kind p.states.length (-1) l).2+eh (fh kind p.states.length (-1) l).1 a (ao p q sch)):
  eh (jU kind) a (ao p q sch)=l.n*a ⟨0,0,0⟩+l.t*a ⟨1,0,0⟩+l.f*a ⟨2,0,0⟩:=by
 unfold fh at h1 h2
 dsimp only at h1 h2
 have hz:eh zC a (ao p q sch)=0:=fF (c:=zC) fun v _=>rfl
 rw[nR,nR,hz,H8 h hk,DP,hl] at h1 h2
 omega
theorem lX (h:aZ p q=0) (hs:∀r∈ip p q sch number,0<=r.2+eh r.1 a (ao p q sch)):
  eh (jU 3) a (ao p q sch)=a ⟨0,0,0⟩-a ⟨2,0,0⟩/\(gq p->eh (jU 4) a (ao p q sch)=a ⟨2,0,0⟩):=by
 have hm:∀r∈jh p,r∈ip p q sch number:=fun r hr=>by
  unfold ip
  exact List.mem_append_left _ (List.mem_append_left _ (List.mem_append_right _ hr))
 constructor
 ·have h1:=hs _ (hm (fh 3 p.states.length 1 ⟨0,1,0,-1⟩) (by unfold jh;exact List.mem_append_left _ (by simp)))
  have h2:=hs _ (hm (fh 3 p.states.length (-1) ⟨0,1,0,-1⟩) (by unfold jh;exact List.mem_append_left _ (by simp)))
  have:=yQ h (.inl rfl) rfl h1 h2
  dsimp only at this
  omega
 ·intro hw
  have h1:=hs _ (hm (fh 4 p.states.length 1 ⟨0,0,0,1⟩) (by unfold jh;rw[if_pos hw];exact List.mem_append_right _ (by simp)))
  have h2:=hs _ (hm (fh 4 p.states.length (-1) ⟨0,0,0,1⟩) (by unfold jh;rw[if_pos hw];exact List.mem_append_right _ (by simp)))
  have:=yQ h (.inr rfl) rfl h1 h2
  dsimp only at this
  omega
theorem DQ (h:aZ p q=0) (ht:io p) (hr:∀j,j<p.rules.length->0<=(p.rules.getD j ar).src/\(p.rules.getD j ar).src<p.states.length) (ha:∀v∈ao p q sch,0<=a v)
  (hs:∀r∈ip p q sch number,0<=r.2+eh r.1 a (ao p q sch)) {j r:Nat}:
  ((⟨5,j,r⟩:Vb)∈ao p q sch->a ⟨5,j,r⟩<=a ⟨0,0,0⟩-a ⟨2,0,0⟩)/\((⟨6,j,r⟩:Vb)∈ao p q sch->a ⟨6,j,r⟩<=a ⟨2,0,0⟩):=by
 have hz:eh zC a (ao p q sch)=0:=fF (c:=zC) fun v _=>rfl
 have hk:∀v∈ao p q sch,E8 p sch v:=fun v hv=>cN h hv
 have hm:∀r∈jX p sch sch.length,r∈ip p q sch number:=fun r hr=>by
  unfold ip
  exact List.mem_append_left _ (List.mem_append_right _ (List.mem_flatMap.2 ⟨sch.length,List.mem_range.2 (by omega),hr⟩))
 have hst:=lX h hs
 have key:∀v∈ao p q sch,v.kind=5\/v.kind=6->(v.seg<=sch.length/\0<=v.idx/\v.idx<p.rules.length)/\(v.kind=6->gq p):=fun v hv e=>by
  have:=hk v hv
  unfold E8 at this
  rcases this with (e2|e2|e2)|this|this
  ·subst e2;dsimp only at e;omega
  ·subst e2;dsimp only at e;omega
  ·subst e2;dsimp only at e;omega
  ·omega
  ·refine⟨by omega,fun e6=>?_⟩
   rcases this.1 with e5|⟨_,hw⟩
   ·omega
   ·exact hw
 constructor
 ·intro hv
  have hb:=(key _ hv (.inl rfl)).1
  dsimp only at hb
  rw[<-hst.1]
  refine DN ht (.inl ⟨rfl,rfl⟩) hk ha hr (seg:=sch.length) (fun x hx=>?_) (by omega) (by omega) hv
  have:=hs _ (hm (qS p 3 5 x sch.length) (by
   unfold jX
   exact List.mem_append_left _ (List.mem_append_right _ (List.mem_map.2 ⟨x,List.mem_range.2 hx,rfl⟩))))
  unfold qS at this
  dsimp only at this
  rw[nR,hz] at this
  omega
 ·intro hv
  obtain⟨hb,hw⟩:=key _ hv (.inr rfl)
  have hw:=hw rfl
  dsimp only at hb
  rw[<-hst.2 hw]
  refine DN ht (.inr ⟨rfl,rfl⟩) hk ha hr (seg:=sch.length) (fun x hx=>?_) (by omega) (by omega) hv
  have:=hs _ (hm (qS p 4 6 x sch.length) (by
   unfold jX
   rw[if_pos hw]
   exact List.mem_append_right _ (List.mem_map.2 ⟨x,List.mem_range.2 hx,rfl⟩)))
  unfold qS at this
  dsimp only at this
  rw[nR,hz] at this
  omega
end
end Go.Proofs.YtnjggjhkfncnlaaGreatDoor
namespace Go.Proofs.YtnjggjhkfncnlaaGreatDoor
set_option maxRecDepth 100000
set_option maxHeartbeats 4000000
def jn (a:Co) (kind:Int) (l:List Int):List Int:=l.flatMap fun x=>List.replicate (a ⟨kind,0,x⟩).toNat x
noncomputable def ef (p:au) (q:aV) (a:Co):aR:=
 ⟨[],jn a 3 (ca p q)++(if gq p then jn a 4 p.initial else[]),a ⟨0,0,0⟩-a ⟨2,0,0⟩,List.replicate p.messages.length 0,List.replicate p.messages.length 0,0⟩
def f8 (a:Co):bA:=⟨a ⟨0,0,0⟩,a ⟨1,0,0⟩,a ⟨2,0,0⟩⟩
theorem yR {a:Co} {kind:Int} {l:List Int} {x:Int} (h:x∈jn a kind l):x∈l:=by
 unfold jn at h
 obtain⟨y,hy,hx⟩:=List.mem_flatMap.1 h
 rw[(List.mem_replicate.1 hx).2]
 exact hy
theorem yS {a:Co} {kind:Int} {l:List Int} (ha:∀x∈l,0<=a ⟨kind,0,x⟩):((jn a kind l).length:Int)=eh (jU kind) a (l.map fun x=>⟨kind,0,x⟩):=by
 induction l with
 |nil=>simp[jn,eh]
 |cons x l ih=>
  have h1:=ih fun y hy=>ha y (List.mem_cons_of_mem _ hy)
  have h2:=ha x List.mem_cons_self
  have e:jU kind ⟨kind,0,x⟩=1:=by simp[jU]
  unfold jn at h1⊢
  rw[List.flatMap_cons,List.length_append,List.length_replicate,List.map_cons,eh,<-h1,e]
  omega
theorem mX {kind:Int} {v:Vb} (h:v.kind≠kind):jU kind v=0:=by simp[jU,h]
theorem H9 {p:au} {q:aV} {sch:List Int} {a:Co}:eh (jU 3) a (ao p q sch)=eh (jU 3) a ((ca p q).map fun x=>⟨3,0,x⟩)/\(gq p->eh (jU 4) a (ao p q sch)=eh (jU 4) a (p.initial.map fun x=>⟨4,0,x⟩)):=by
 have hh:∀kind:Int,kind=3\/kind=4->eh (jU kind) a (ao p q sch)=eh (jU kind) a (qD p q):=fun kind hk=>by
  unfold ao
  rw[jK,jK,fF (l:=[⟨0,0,0⟩,⟨1,0,0⟩,⟨2,0,0⟩]) (fun v hv=>mX (by
   simp only[List.mem_cons,List.not_mem_nil,or_false] at hv
   rcases hv with rfl|rfl|rfl<;>(dsimp only;omega))),fF (l:=(List.range (sch.length+1)).flatMap fun j=>bX p sch j p.rules.length) (fun v hv=>mX (by
   obtain⟨j,_,hv⟩:=List.mem_flatMap.1 hv
   obtain⟨r,_,hv⟩:=dK hv
   have:=(eX hv).1
   omega))]
  omega
 constructor
 ·rw[hh 3 (.inl rfl)]
  unfold qD
  rw[jK]
  split
  ·rw[fF (l:=p.initial.map fun x=>⟨4,0,x⟩) (fun v hv=>mX (by obtain⟨x,_,rfl⟩:=List.mem_map.1 hv;dsimp only;omega))]
   omega
  ·simp[eh]
 ·intro hw
  rw[hh 4 (.inr rfl)]
  unfold qD
  rw[if_pos hw,jK,fF (l:=(ca p q).map fun x=>⟨3,0,x⟩) (fun v hv=>mX (by obtain⟨x,_,rfl⟩:=List.mem_map.1 hv;dsimp only;omega))]
  omega
theorem nT {p:au} {q:aV} {sch:List Int} {number:Int} {a:Co} (hs:∀r∈ip p q sch number,0<=r.2+eh r.1 a (ao p q sch)) {l:g7} (hl:l∈fi p):0<=iK l (f8 a):=by
 have h:=hs (lP l) (by
  unfold ip
  exact List.mem_append_left _ (List.mem_append_left _ (List.mem_append_left _ (List.mem_map.2 ⟨l,hl,rfl⟩))))
 unfold lP at h
 dsimp only at h
 rw[DP] at h
 unfold iK f8
 dsimp only
 omega
theorem H' {p:au} {q:aV} {sch:List Int} {number:Int} {a:Co} (hp:aZ p q=0) (ht:io p) (ha:∀v∈ao p q sch,0<=a v)
  (hs:∀r∈ip p q sch number,0<=r.2+eh r.1 a (ao p q sch)) (hn:a ⟨0,0,0⟩<=8):gu p (f8 a) (ef p q a):=by
 have hv:=(aQ hp).vld
 have hin:=(aK hv).ini
 have h0:(⟨0,0,0⟩:Vb)∈ao p q sch:=by unfold ao;simp
 have h1:(⟨1,0,0⟩:Vb)∈ao p q sch:=by unfold ao;simp
 have h2:(⟨2,0,0⟩:Vb)∈ao p q sch:=by unfold ao;simp
 have a0:=ha _ h0
 have a1:=ha _ h1
 have a2:=ha _ h2
 have e1:=nT hs (l:=⟨-1,1,0,0⟩) (by unfold fi;simp)
 have e2:=nT hs (l:=⟨0,1,-1,0⟩) (by unfold fi;simp)
 have e3:=nT hs (l:=⟨0,1,0,-1⟩) (by unfold fi;simp)
 have e4:p.fault=0->0<=iK ⟨0,0,-1,0⟩ (f8 a)/\0<=iK ⟨0,0,0,-1⟩ (f8 a):=fun hf=>⟨nT hs (by unfold fi;rw[if_pos hf];simp),nT hs (by unfold fi;rw[if_pos hf];simp)⟩
 have e5:∀l∈p.resilience,0<=iK l (f8 a):=fun l hl=>nT hs (by unfold fi;exact List.mem_append_right _ hl)
 unfold iK f8 at e1 e2 e3 e4
 dsimp only at e1 e2 e3 e4
 have hst:=lX hp hs
 have hev:=H9 (p:=p) (q:=q) (sch:=sch) (a:=a)
 have l3:=yS (a:=a) (kind:=3) (l:=ca p q) fun x hx=>ha _ (by
  unfold ao qD
  exact List.mem_append_left _ (List.mem_append_right _ (List.mem_append_left _ (List.mem_map.2 ⟨x,hx,rfl⟩))))
 have l4:gq p->((jn a 4 p.initial).length:Int)=a ⟨2,0,0⟩:=fun hw=>by
  rw[yS (a:=a) (kind:=4) (l:=p.initial) fun x hx=>ha _ (by
   unfold ao qD
   rw[if_pos hw]
   exact List.mem_append_left _ (List.mem_append_right _ (List.mem_append_right _ (List.mem_map.2 ⟨x,hx,rfl⟩)))),<-hev.2 hw,hst.2 hw]
 rw[<-hev.1,hst.1] at l3
 have hle:=b7 (dZ hv)
 have hlen:((ef p q a).states.length:Int)=iU p (f8 a):=by
  show(((jn a 3 (ca p q)++(if gq p then jn a 4 p.initial else[])).length:Nat):Int)=_
  rw[List.length_append]
  unfold iU f8
  dsimp only
  by_cases hw:gq p
  ·have:=l4 hw
   rw[if_pos hw,if_neg (by unfold gq at hw;omega)]
   omega
  ·rw[if_neg hw,List.length_nil]
   unfold gq at hw
   have hf:=(aK hv).top
   by_cases h3:p.fault=3
   ·rw[if_pos h3];omega
   ·rw[if_neg h3]
    have:=e4 (by omega)
    omega
 have hz:(f8 a).n<=8:=hn
 have hm8:iU p (f8 a)<=8:=by unfold iU f8;dsimp only;split<;>omega
 refine⟨dZ hv,?_,hv,?_,?_,⟨?_,?_,?_,?_⟩,⟨hlen,?_,rfl,?_,?_,?_,?_,Int.le_refl _, .inl Int.one_pos,?_,?_⟩⟩
 ·unfold ct
  simp only[Bool.or_eq_false_iff,decide_eq_false_iff_not]
  have:(ef p q a).shape.length=0:=rfl
  have:(ef p q a).sent.length=p.messages.length:=List.length_replicate
  have:(ef p q a).faulty.length=p.messages.length:=List.length_replicate
  omega
 ·unfold Ah f8;dsimp only;omega
 ·unfold f8;dsimp only;omega
 ·unfold qM f8;dsimp only;omega
 ·unfold qN f8
  rintro⟨h,h3⟩
  have:=e4 h
  dsimp only at h3
  omega
 ·unfold sR
  rintro⟨h,_⟩
  have:=ht.1
  omega
 ·intro j hj
  exact e5 _ (aP dc hj)
 ·intro j hj
  have hm:=aP 0 hj
  have hm:(ef p q a).states.getD j 0∈jn a 3 (ca p q)++(if gq p then jn a 4 p.initial else[]):=hm
  rcases List.mem_append.1 hm with h|h
  ·exact Ga hp _ (yR h)
  ·split at h
   ·exact p9 hin.1 _ (yR h)
   ·simp at h
 ·exact List.length_replicate
 ·intro j hj
  have hj:j<p.messages.length:=by simpa[ef] using hj
  show 0<=(List.replicate p.messages.length (0:Int)).getD j 0/\(List.replicate p.messages.length (0:Int)).getD j 0<1048577
  rw[gD,List.getElem?_replicate,if_pos hj]
  decide
 ·exact List.length_replicate
 ·intro j hj
  have hj:j<p.messages.length:=by simpa[ef] using hj
  show 0<=(List.replicate p.messages.length (0:Int)).getD j 0/\(List.replicate p.messages.length (0:Int)).getD j 0<qO p+1
  rw[gD,List.getElem?_replicate,if_pos hj,Option.getD_some]
  unfold qO
  split<;>omega
 ·intro h
  have:=ht.1
  omega
 ·intro _
  rfl
noncomputable def fO (vars:List Vb) (x:List Int) (kind seg idx:Int):Int:=
 match kG vars kind vars.length (seg,idx) with
 |some m=>x.getD m.toNat 0
 |none=>0
theorem qt {vars:List Vb} {x:List Int} {kind seg idx m:Int} (h:kG vars kind vars.length (seg,idx)=some m):fO vars x kind seg idx=x.getD m.toNat 0:=by
 unfold fO;rw[h]
theorem qu {vars:List Vb} {x:List Int} {kind seg idx:Int} (h:kG vars kind vars.length (seg,idx)=none):fO vars x kind seg idx=0:=by
 unfold fO;rw[h]
theorem qv {vars:List Vb} (hn:vars.Nodup) (x:List Int) {m:Nat} (hm:m<vars.length):gr vars x (vars.getD m cm)=x.getD m 0:=by
 unfold gr
 rw[ay cm hm,hn.idxOf_getElem m hm]
theorem nU {vars:List Vb} (hn:vars.Nodup) (x:List Int) (kind seg idx:Int):fO vars x kind seg idx=if(⟨kind,seg,idx⟩:Vb)∈vars then gr vars x ⟨kind,seg,idx⟩ else 0:=by
 cases h:kG vars kind vars.length (seg,idx) with
 |none=>rw[qu h,if_neg (rO h)]
 |some m=>
  obtain⟨k,rfl,hk,e⟩:=jg h
  rw[qt h,<-e,if_pos (aP cm hk),qv hn x hk,tN]
noncomputable def mY (vars:List Vb) (x:List Int) (kind:Int) (n:Nat):List Int:=(List.range n).flatMap fun y:Nat=>List.replicate (fO vars x kind 0 y).toNat (y:Int)
theorem DR (vars:List Vb) (x:List Int) (kind:Int) (n:Nat):mY vars x kind (n+1)=mY vars x kind n++List.replicate (fO vars x kind 0 n).toNat (n:Int):=by
 unfold mY
 rw[List.range_succ,List.flatMap_append]
 simp
def tQ (vars:List Vb) (x:List Int) (kind:Int):Nat->List Int
 |0=>[]
 |n+1=>if(vars.getD n cm).kind=kind then tQ vars x kind n++List.replicate (x.getD n 0).toNat (vars.getD n cm).idx else tQ vars x kind n
theorem Ia {l:List Int} (h:l.Pairwise (·<·)) (n:Nat):l.filter (fun y=>decide (y<((n+1:Nat):Int)))=l.filter (fun y=>decide (y<(n:Int)))++if(n:Int)∈l then[(n:Int)] else[]:=by
 induction l with
 |nil=>simp
 |cons y l ih=>
  obtain⟨h1,h2⟩:=List.pairwise_cons.1 h
  have ih:=ih h2
  rcases Int.lt_trichotomy y (n:Int) with e|e|e
  ·rw[List.filter_cons_of_pos (by simp;omega),List.filter_cons_of_pos (by simp;omega),ih,List.cons_append]
   have:((n:Int)∈y::l)↔(n:Int)∈l:=by
    rw[List.mem_cons]
    exact⟨fun h=>h.resolve_left (by omega), .inr⟩
   simp only[this]
  ·subst e
   have hno:∀m:Int,m<=(n:Int)+1->l.filter (fun y=>decide (y<m))=[]:=fun m hm=>by
    rw[List.filter_eq_nil_iff]
    intro z hz
    have:=h1 z hz
    simp only[decide_eq_true_eq]
    omega
   rw[List.filter_cons_of_pos (by simp;omega),List.filter_cons_of_neg (by simp),hno _ (by omega),hno _ (by omega),if_pos List.mem_cons_self]
   rfl
  ·have hno:∀m:Int,m<=(n:Int)+1->(y::l).filter (fun y=>decide (y<m))=[]:=fun m hm=>by
    rw[List.filter_eq_nil_iff]
    intro z hz
    have:y<=z:=by
     rcases List.mem_cons.1 hz with rfl|hz
     ·exact Int.le_refl _
     ·have:=h1 z hz;omega
    simp only[decide_eq_true_eq]
    omega
   rw[hno _ (by omega),hno _ (by omega),if_neg,List.append_nil]
   intro hm
   rcases List.mem_cons.1 hm with e2|hm
   ·omega
   ·have:=h1 _ hm;omega
theorem ol {l:List Int} (h:l.Pairwise (·<·)) (h0:∀y∈l,0<=y) (f:Int->List Int):∀n:Nat,(List.range n).flatMap (fun y:Nat=>if(y:Int)∈l then f y else[])=(l.filter fun y=>decide (y<(n:Int))).flatMap f
 |0=>by
  rw[(List.filter_eq_nil_iff).2 (fun y hy=>by have:=h0 y hy;simp only[decide_eq_true_eq];omega)]
  rfl
 |n+1=>by
  rw[List.range_succ,List.flatMap_append,ol h h0 f n,Ia h,List.flatMap_append]
  congr 1
  by_cases e:(n:Int)∈l
  ·simp[e]
  ·simp[e]
theorem lY {l:List Int} {n:Int} (h:bQ l n=0):l.Pairwise (·<·):=by
 obtain⟨_,h2⟩:=mC h
 have key:∀(k i:Nat),i<k->k<l.length->l.getD i 0<l.getD k 0:=by
  intro k
  induction k with
  |zero=>intro i hi;omega
  |succ k ih=>
   intro i hi hk
   have h1:=h2 (k+1) hk (by omega)
   rw[Nat.add_sub_cancel] at h1
   by_cases e:i=k
   ·subst e;exact h1
   ·have:=ih i (by omega) (by omega);omega
 rw[List.pairwise_iff_getElem]
 intro i j hi hj hij
 have:=key j i hij hj
 rwa [ay 0 hi,ay 0 hj] at this
theorem Ae {p:au} {q:aV} {sch:List Int} {x:Int}:(⟨3,0,x⟩:Vb)∈ao p q sch↔x∈ca p q:=by
 unfold ao qD
 simp only[List.mem_append]
 constructor
 ·rintro((h|h|h)|h)
  ·simp only[List.mem_cons,List.not_mem_nil,or_false] at h
   rcases h with h|h|h<;>(have:=congrArg Vb.kind h;dsimp only at this;omega)
  ·obtain⟨y,hy,e⟩:=List.mem_map.1 h
   have:=congrArg Vb.idx e
   dsimp only at this
   subst this
   exact hy
  ·split at h
   ·obtain⟨y,hy,e⟩:=List.mem_map.1 h
    have:=congrArg Vb.kind e;dsimp only at this;omega
   ·cases h
  ·obtain⟨j,_,h⟩:=List.mem_flatMap.1 h
   obtain⟨r,_,h⟩:=dK h
   have:=(eX h).1
   dsimp only at this;omega
 ·intro h
  exact .inl (.inr (.inl (List.mem_map.2 ⟨x,h,rfl⟩)))
theorem vV {p:au} {q:aV} {sch:List Int} {x:Int}:(⟨4,0,x⟩:Vb)∈ao p q sch↔gq p/\x∈p.initial:=by
 unfold ao qD
 simp only[List.mem_append]
 constructor
 ·rintro((h|h|h)|h)
  ·simp only[List.mem_cons,List.not_mem_nil,or_false] at h
   rcases h with h|h|h<;>(have:=congrArg Vb.kind h;dsimp only at this;omega)
  ·obtain⟨y,hy,e⟩:=List.mem_map.1 h
   have:=congrArg Vb.kind e;dsimp only at this;omega
  ·split at h
   ·rename_i hw
    obtain⟨y,hy,e⟩:=List.mem_map.1 h
    have:=congrArg Vb.idx e
    dsimp only at this
    subst this
    exact⟨hw,hy⟩
   ·cases h
  ·obtain⟨j,_,h⟩:=List.mem_flatMap.1 h
   obtain⟨r,_,h⟩:=dK h
   have:=(eX h).1
   dsimp only at this;omega
 ·rintro⟨hw,h⟩
  exact .inl (.inr (.inr (by rw[if_pos hw];exact List.mem_map.2 ⟨x,h,rfl⟩)))
theorem tR {l:List Int} {n:Int} (h:bQ l n=0):∀y∈l,0<=y/\y<n:=fun y hy=>p9 h y hy
theorem FK {p:au} {q:aV} (hp:aZ p q=0) {sch:List Int} (x:List Int):
  mY (ao p q sch) x 3 p.states.length++mY (ao p q sch) x 4 p.states.length=(ef p q (gr (ao p q sch) x)).states:=by
 have hn:=dL hp sch
 have hv:=aK (aQ hp).vld
 have hst:(ca p q).Pairwise (·<·)/\∀y∈ca p q,0<=y/\y<p.states.length:=by
  unfold ca
  split
  ·exact⟨lY (aQ hp).start,tR (aQ hp).start⟩
  ·exact⟨lY hv.ini.1,tR hv.ini.1⟩
 have hin:=lY hv.ini.1
 have hin2:=tR hv.ini.1
 have key:∀(l:List Int) (kind:Int),l.Pairwise (·<·)->(∀y∈l,0<=y/\y<p.states.length)->(∀y:Int,(⟨kind,0,y⟩:Vb)∈ao p q sch↔y∈l)->mY (ao p q sch) x kind p.states.length=jn (gr (ao p q sch) x) kind l:=by
  intro l kind h1 h2 h3
  have e:∀y:Nat,List.replicate (fO (ao p q sch) x kind 0 y).toNat (y:Int)=if(y:Int)∈l then List.replicate (gr (ao p q sch) x ⟨kind,0,y⟩).toNat (y:Int) else[]:=fun y=>by
   rw[nU hn]
   by_cases hy:(y:Int)∈l
   ·rw[if_pos ((h3 y).2 hy),if_pos hy]
   ·rw[if_neg (fun h=>hy ((h3 y).1 h)),if_neg hy];rfl
  unfold mY jn
  simp only[e]
  rw[ol h1 (fun y hy=>(h2 y hy).1) (fun y=>List.replicate (gr (ao p q sch) x ⟨kind,0,y⟩).toNat y)]
  rw[List.filter_eq_self.2 (fun y hy=>by simpa using (h2 y hy).2)]
 have k3:=key (ca p q) 3 hst.1 hst.2 (fun y=>Ae)
 show _=jn _ 3 (ca p q)++(if gq p then jn _ 4 p.initial else[])
 rw[k3]
 congr 1
 by_cases hw:gq p
 ·rw[if_pos hw]
  exact key p.initial 4 hin hin2 fun y=>vV.trans (and_iff_right hw)
 ·rw[if_neg hw]
  exact key [] 4 List.Pairwise.nil (fun y hy=>by cases hy) fun y=>vV.trans (by simp[hw])
theorem qw {vars:List Vb} (hn:vars.Nodup) (x:List Int) (kind:Int):∀n,n<=vars.length->tQ vars x kind n=(vars.take n).flatMap fun v=>if v.kind=kind then List.replicate (gr vars x v).toNat v.idx else[]
 |0,_=>rfl
 |n+1,h=>by
  rw[bl cm (by omega),List.flatMap_append,<-qw hn x kind n (by omega)]
  show(if _ then _ else _)=_
  simp only[List.flatMap_cons,List.flatMap_nil,List.append_nil]
  by_cases e:(vars.getD n cm).kind=kind
  ·rw[if_pos e,if_pos e,qv hn x (by omega)]
  ·rw[if_neg e,if_neg e,List.append_nil]
theorem gS {l:List Vb} {kind:Int} {f:Vb->List Int} (h:∀v∈l,v.kind≠kind):l.flatMap (fun v=>if v.kind=kind then f v else[])=[]:=by
 rw[List.flatMap_eq_nil_iff]
 intro v hv
 rw[if_neg (h v hv)]
theorem FL {p:au} {q:aV} (hp:aZ p q=0) {sch:List Int} (x:List Int):
  tQ (ao p q sch) x 3 (ao p q sch).length++tQ (ao p q sch) x 4 (ao p q sch).length=(ef p q (gr (ao p q sch) x)).states:=by
 have hn:=dL hp sch
 rw[qw hn x 3 _ (Nat.le_refl _),qw hn x 4 _ (Nat.le_refl _),List.take_length]
 show _=jn _ 3 (ca p q)++(if gq p then jn _ 4 p.initial else[])
 generalize gr (ao p q sch) x=a
 have hseg:∀kind:Int,kind<5->∀v∈(List.range (sch.length+1)).flatMap fun j=>bX p sch j p.rules.length,v.kind≠kind:=fun kind hk v h=>by
  obtain⟨j,_,h⟩:=List.mem_flatMap.1 h
  obtain⟨r,_,h⟩:=dK h
  have:=(eX h).1
  omega
 have hpar:∀kind:Int,2<kind->∀v∈[(⟨0,0,0⟩:Vb),⟨1,0,0⟩,⟨2,0,0⟩],v.kind≠kind:=fun kind hk v h=>by
  simp only[List.mem_cons,List.not_mem_nil,or_false] at h
  rcases h with rfl|rfl|rfl<;>(dsimp only;omega)
 have hmap:∀(l:List Int) (kind k2:Int),k2≠kind->∀v∈l.map (fun x=>(⟨k2,0,x⟩:Vb)),v.kind≠kind:=fun l kind k2 hk v h=>by
  obtain⟨y,_,rfl⟩:=List.mem_map.1 h
  exact hk
 have hown:∀(l:List Int) (kind:Int),(l.map (fun x=>(⟨kind,0,x⟩:Vb))).flatMap (fun v=>if v.kind=kind then List.replicate (a v).toNat v.idx else[])=jn a kind l:=fun l kind=>by
  unfold jn
  induction l with
  |nil=>rfl
  |cons y l ih=>rw[List.map_cons,List.flatMap_cons,List.flatMap_cons,ih,if_pos rfl]
 unfold ao qD
 simp only[List.flatMap_append]
 rw[gS (hpar 3 (by omega)),gS (hseg 3 (by omega)),gS (hpar 4 (by omega)),gS (hseg 4 (by omega)),hown,gS (hmap (ca p q) 4 3 (by omega))]
 simp only[List.nil_append,List.append_nil]
 by_cases hw:gq p
 ·simp only[if_pos hw]
  rw[gS (hmap p.initial 3 4 (by omega)),hown,List.append_nil]
 ·simp only[if_neg hw,List.flatMap_nil,List.append_nil]
def j5 (ord:List Int):Nat->Nat->List (Nat×Int)
 |0,_=>[]
 |n+1,j=>ord.map (fun r=>(j,r))++j5 ord n (j+1)
noncomputable def jQ (p:au) (s:bA) (t5 t6:Nat->Int->Int):List (Nat×Int)->aR->List dH->aR×List dH×Int
 |[],c,xs=>(c,xs,0)
 |y::L,c,xs=>if(gC p s c y.2 (t5 y.1 y.2).toNat (t6 y.1 y.2).toNat).2.2≠0 then(fC,[],(gC p s c y.2 (t5 y.1 y.2).toNat (t6 y.1 y.2).toNat).2.2)
  else jQ p s t5 t6 L (gC p s c y.2 (t5 y.1 y.2).toNat (t6 y.1 y.2).toNat).1 (xs++(gC p s c y.2 (t5 y.1 y.2).toNat (t6 y.1 y.2).toNat).2.1)
theorem r9 (p:au) (s:bA) (t5 t6:Nat->Int->Int) (j:Nat) (r:Int) (L:List (Nat×Int)) (c:aR) (xs:List dH):jQ p s t5 t6 ((j,r)::L) c xs=if(gC p s c r (t5 j r).toNat (t6 j r).toNat).2.2≠0 then(fC,[],(gC p s c r (t5 j r).toNat (t6 j r).toNat).2.2)
  else jQ p s t5 t6 L (gC p s c r (t5 j r).toNat (t6 j r).toNat).1 (xs++(gC p s c r (t5 j r).toNat (t6 j r).toNat).2.1):=rfl
theorem yT {p:au} {s:bA} {t5 t6:Nat->Int->Int}:∀(L:List (Nat×Int)) (c:aR) (xs:List dH),gu p s c->(∀y∈L,t5 y.1 y.2<=8/\t6 y.1 y.2<=8)->
  ((jQ p s t5 t6 L c xs).2.2=0/\(jQ p s t5 t6 L c xs).2.1.length<=xs.length+16*L.length)\/((jQ p s t5 t6 L c xs).2.2≠0/\(jQ p s t5 t6 L c xs).2.1=[])
 |[],c,xs,_,_=>.inl ⟨rfl,Nat.le_refl _⟩
 |y::L,c,xs,h,ht=>by
  rw[jQ]
  have hb:=ht y List.mem_cons_self
  rcases oQ (ri:=y.2) (n:=(t5 y.1 y.2).toNat) (m:=(t6 y.1 y.2).toNat) h with ⟨a,b,e⟩|⟨a,b,e⟩
  ·rw[if_neg (fun k=>k a)]
   rcases yT L _ (xs++(gC p s c y.2 (t5 y.1 y.2).toNat (t6 y.1 y.2).toNat).2.1) b (fun z hz=>ht z (List.mem_cons_of_mem _ hz)) with ⟨u,v⟩|u
   ·refine .inl ⟨u,?_⟩
    rw[List.length_append,e] at v
    rw[List.length_cons]
    omega
   ·exact .inr u
  ·rw[if_pos a]
   exact .inr ⟨a,rfl⟩
theorem vW (ord:List Int):∀n j,(j5 ord n j).length=n*ord.length
 |0,j=>by simp[j5]
 |n+1,j=>by rw[j5,List.length_append,List.length_map,vW ord n,Nat.succ_mul];omega
theorem qx {ord:List Int} {y:Nat×Int}:∀{n j},y∈j5 ord n j->y.2∈ord
 |0,j,h=>by cases h
 |n+1,j,h=>by
  rw[j5,List.mem_append] at h
  rcases h with h|h
  ·obtain⟨r,hr,rfl⟩:=List.mem_map.1 h
   exact hr
  ·exact qx h
theorem oS {p:au} {r:Int} (h:r∈jY p.rules p.states.length):0<=r/\r<p.rules.length:=by
 unfold jY at h
 obtain⟨x,_,h⟩:=List.mem_flatMap.1 h
 obtain⟨k,hk,rfl⟩:=List.mem_map.1 h
 have:=List.mem_range.1 (List.mem_filter.1 hk).1
 omega
theorem qy {p:au} (hv:aB p=0):(jY p.rules p.states.length).length<=48:=by
 have:=vy p.rules p.states.length
 rw[vv] at this
 have w:=(aK hv).len
 have:p.rules.length*p.states.length<=8*6:=Nat.mul_le_mul w.2.2.2.2.2 w.2.1
 omega
section
variable (p:au) (q:aV) (sch:List Int) (x:List Int)
noncomputable abbrev JX:Nat->Int->Int:=fun j r=>fO (ao p q sch) x 5 j r
noncomputable abbrev JY:Nat->Int->Int:=fun j r=>fO (ao p q sch) x 6 j r
noncomputable def vX:aR×List dH×Int:=jQ p (f8 (gr (ao p q sch) x)) (JX p q sch x) (JY p q sch x) (j5 (jY p.rules p.states.length) (sch.length+1) 0) (ef p q (gr (ao p q sch) x)) []
noncomputable def mZ (number:Int):Int:=
 if cV p q≠0 then cV p q else if¬cM (aA p.rules).length sch\/number< -1\/(ta p q:Int)<=number then 1
 else if¬vj (lT p q sch number) x then 1 else if 8<x.getD 0 0 then 4 else(vX p q sch x).2.2
noncomputable def qz (number:Int):AV:=
 if mZ p q sch x number≠0 then .tup [.agg [.int .i64 0, .int .i64 0, .int .i64 0], .agg (eH++[.nilsl]), .int .i64 (mZ p q sch x number)]
 else .tup [.agg (cj (f8 (gr (ao p q sch) x))), .agg (aW (ef p q (gr (ao p q sch) x))++[.sl ig de (vX p q sch x).2.1]), .int .i64 0]
end
structure FM (p:au) (q:aV) (sch:List Int) (x:List Int) (number:Int):Prop where
 prp:aZ p q=0
 thr:io p
 scm:cM (aA p.rules).length sch
 len:x.length=(ao p q sch).length
 rdy:gu p (f8 (gr (ao p q sch) x)) (ef p q (gr (ao p q sch) x))
 siz:f8 (gr (ao p q sch) x)=⟨x.getD 0 0,x.getD 1 0,x.getD 2 0⟩
 five:∀(j:Nat) (r:Int),r∈jY p.rules p.states.length->0<=fO (ao p q sch) x 5 j r/\fO (ao p q sch) x 5 j r<=8
 six:∀(j:Nat) (r:Int),r∈jY p.rules p.states.length->0<=fO (ao p q sch) x 6 j r/\fO (ao p q sch) x 6 j r<=8
 pnt:∀m,m<x.length->0<=x.getD m 0/\x.getD m 0<=1048576
theorem tS {p:au} {q:aV} {sch x:List Int} {number:Int} (h:vj (lT p q sch number) x):x.length=(ao p q sch).length:=by
 have:=h.2.1
 unfold lT at this
 dsimp only at this
 omega
theorem xA {p:au} {q:aV} {sch x:List Int} {number:Int} (hc:cV p q=0) (hs:cM (aA p.rules).length sch) (h:vj (lT p q sch number) x) (h8:¬8<x.getD 0 0):FM p q sch x number:=by
 have hp:=c8 hc
 have ht:=(tp hc).1
 have hn:=dL hp sch
 have hl:=tS h
 have hm:=He hn hl
 have hsat:=h
 rw[<-hm] at hsat
 obtain⟨h1,h2⟩:=(Hf hp hs).1 hsat
 have ha:∀v∈ao p q sch,0<=gr (ao p q sch) x v:=fun v hv=>(h1 v hv).1
 have hv3:3<=(ao p q sch).length:=by unfold ao;simp only[List.length_append,List.length_cons,List.length_nil];omega
 have e0:gr (ao p q sch) x ⟨0,0,0⟩=x.getD 0 0:=qv hn x (m:=0) (by omega)
 have e1:gr (ao p q sch) x ⟨1,0,0⟩=x.getD 1 0:=qv hn x (m:=1) (by omega)
 have e2:gr (ao p q sch) x ⟨2,0,0⟩=x.getD 2 0:=qv hn x (m:=2) (by omega)
 have hr:∀j,j<p.rules.length->0<=(p.rules.getD j ar).src/\(p.rules.getD j ar).src<p.states.length:=fun j hj=>by
  have:=yr (aQ hp).vld j hj
  rwa [CF] at this
 have hf:=fun(j r:Nat)=>DQ hp ht hr ha h2 (j:=j) (r:=r)
 have hN:=ha ⟨0,0,0⟩ (by unfold ao;simp)
 have hF:=ha ⟨2,0,0⟩ (by unfold ao;simp)
 have rd:=H' hp ht ha h2 (by omega)
 have hfn:gr (ao p q sch) x ⟨2,0,0⟩<=gr (ao p q sch) x ⟨0,0,0⟩:=by
  have:=(lX hp h2).1
  have:=rd.sz
  unfold f8 at this
  dsimp only at this
  omega
 refine⟨hp,ht,hs,hl,rd,by unfold f8;rw[e0,e1,e2],fun j r hr=>?_,fun j r hr=>?_,fun m hm=>?_⟩
 ·obtain⟨a,b⟩:=oS hr
  obtain⟨k,rfl⟩:∃k:Nat,r=k:=⟨r.toNat,by omega⟩
  rw[nU hn]
  by_cases e:(⟨5,j,k⟩:Vb)∈ao p q sch
  ·rw[if_pos e]
   have:=(hf j k).1 e
   have:=ha _ e
   omega
  ·rw[if_neg e];omega
 ·obtain⟨a,b⟩:=oS hr
  obtain⟨k,rfl⟩:∃k:Nat,r=k:=⟨r.toNat,by omega⟩
  rw[nU hn]
  by_cases e:(⟨6,j,k⟩:Vb)∈ao p q sch
  ·rw[if_pos e]
   have:=(hf j k).2 e
   have:=ha _ e
   omega
  ·rw[if_neg e];omega
 ·exact h.2.2.1 m hm
end Go.Proofs.YtnjggjhkfncnlaaGreatDoor
