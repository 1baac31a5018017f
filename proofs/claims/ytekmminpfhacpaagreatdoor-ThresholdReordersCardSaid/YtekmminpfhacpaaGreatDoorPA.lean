import Derived.Test.YtekmminpfhacpaaGreatDoorHA
import Derived.Test.YtekmminpfhacpaaGreatDoorFS
import Derived.Test.YtekmminpfhacpaaGreatDoorV1
import Derived.Test.YtekmminpfhacpaaGreatDoorFZ2
set_option linter.unusedVariables false
set_option linter.unusedSimpArgs false
namespace Go.Proofs.YtekmminpfhacpaaGreatDoor
set_option maxRecDepth 100000
set_option maxHeartbeats 4000000
def dc:List Int->List Int->List Int
 |sch,[]=>sch
 |sch,g::gs=>if g∈sch then dc sch gs else dc (sch++[g]) gs
theorem r8:∀(gs sch:List Int),∃t,dc sch gs=sch++t
 |[],sch=>⟨[],by simp[dc]⟩
 |g::gs,sch=>by
  unfold dc
  split
  ·exact r8 gs sch
  ·obtain⟨t,h⟩:=r8 gs (sch++[g])
   exact⟨g::t,by rw[h];simp⟩
theorem oa:∀{gs sch:List Int} {x:Int},x∈dc sch gs↔x∈sch\/x∈gs
 |[],sch,x=>by simp[dc]
 |g::gs,sch,x=>by
  unfold dc
  split
  ·rename_i h
   rw[oa]
   constructor
   ·rintro(h|h)
    ·exact .inl h
    ·exact .inr (List.mem_cons_of_mem _ h)
   ·rintro(h1|h1)
    ·exact .inl h1
    ·rcases List.mem_cons.1 h1 with rfl|h1
     ·exact .inl h
     ·exact .inr h1
  ·rw[oa,List.mem_append,List.mem_singleton,List.mem_cons]
   constructor
   ·rintro((h|h)|h)
    ·exact .inl h
    ·exact .inr (.inl h)
    ·exact .inr (.inr h)
   ·rintro(h|h|h)
    ·exact .inl (.inl h)
    ·exact .inl (.inr h)
    ·exact .inr h
theorem mO:∀{gs sch:List Int},sch.Nodup->(dc sch gs).Nodup
 |[],sch,h=>h
 |g::gs,sch,h=>by
  unfold dc
  split
  ·exact mO h
  ·rename_i hn
   refine mO ?_
   rw[List.nodup_append]
   refine⟨h,by simp,fun a ha b hb e=>?_⟩
   rw[List.mem_singleton] at hb
   subst hb;subst e
   exact hn ha
noncomputable def lH (p:an) (s:aJ):List az->List Int->List Int->List Int×List Int
 |[],sch,seg=>(sch,seg)
 |c::l,sch,seg=>lH p s l (dc sch (cU p s c (ax p.rules).length)) (seg++[((dc sch (cU p s c (ax p.rules).length)).length:Int)])
structure On (p:an) (s:aJ) (l:List az) (sch seg:List Int) (R:List Int×List Int):Prop where
 pre:∃t,R.1=sch++t
 sgl:R.2.length=seg.length+l.length
 old:∀k,k<seg.length->R.2.getD k 0=seg.getD k 0
 new:∀k,k<l.length->∃n:Nat,R.2.getD (seg.length+k) 0=n/\n<=R.1.length/\∀x∈cU p s (l.getD k aU) (ax p.rules).length,x∈R.1.take n
 nod:sch.Nodup->R.1.Nodup
 rng:(∀x∈sch,0<=x/\x<((ax p.rules).length:Int))->∀x∈R.1,0<=x/\x<((ax p.rules).length:Int)
theorem ob (p:an) (s:aJ):∀(l:List az) (sch seg:List Int),On p s l sch seg (lH p s l sch seg)
 |[],sch,seg=>⟨⟨[],by simp[lH]⟩,by simp[lH],fun k hk=>rfl,fun k hk=>by simp at hk,id,id⟩
 |c::l,sch,seg=>by
  obtain⟨t0,h0⟩:=r8 (cU p s c (ax p.rules).length) sch
  obtain⟨⟨t,h1⟩,h2,h3,h4,h5,h6⟩:=ob p s l (dc sch (cU p s c (ax p.rules).length)) (seg++[((dc sch (cU p s c (ax p.rules).length)).length:Int)])
  have hl:(seg++[((dc sch (cU p s c (ax p.rules).length)).length:Int)]).length=seg.length+1:=by simp
  rw[hl] at h2 h3 h4
  have e:lH p s (c::l) sch seg=lH p s l (dc sch (cU p s c (ax p.rules).length)) (seg++[((dc sch (cU p s c (ax p.rules).length)).length:Int)]):=rfl
  rw[e]
  refine⟨⟨t0++t,by rw[h1,h0,List.append_assoc]⟩,by rw[h2,List.length_cons];omega,fun k hk=>?_,fun k hk=>?_,fun hn=>h5 (mO hn),fun hr=>h6 fun x hx=>?_⟩
  ·rw[h3 k (by omega),gD,List.getElem?_append_left hk,<-gD]
  ·cases k with
   |zero=>
    refine⟨(dc sch (cU p s c (ax p.rules).length)).length,?_,by rw[h1,List.length_append];omega,fun x hx=>?_⟩
    ·rw[Nat.add_zero,h3 _ (by omega),gD,List.getElem?_append_right (Nat.le_refl _),Nat.sub_self]
     rfl
    ·rw[h1,List.take_left]
     exact oa.2 (.inr hx)
   |succ k=>
    obtain⟨n,a,b,d⟩:=h4 k (by rw[List.length_cons] at hk;omega)
    refine⟨n,?_,b,d⟩
    rw[<-a]
    congr 1
    omega
  ·rcases oa.1 hx with hx|hx
   ·exact hr x hx
   ·obtain⟨i,hi,rfl,_⟩:=(lD p s c).1 hx
    omega
theorem LX {n:Nat} {l:List Int} (h1:l.Nodup) (h2:∀x∈l,0<=x/\x<(n:Int)):da n l:=by
 intro i hi
 refine⟨h2 _ (aB 0 hi),fun hm=>?_⟩
 obtain⟨j,hj,e⟩:=List.mem_take_iff_getElem.1 hm
 rw[av 0 hi] at e
 have:=(List.getElem_inj h1).1 e
 omega
def fV (c:az) (i:Nat):Vb:=⟨if(i:Int)<c.correct then 3 else 4,0,c.states.getD i 0⟩
def lJ (c:az) (xs:List bH) (seg:List Int) (k:Nat):Vb:=⟨if(xs.getD k bI).process<c.correct then 5 else 6,seg.getD k 0,(xs.getD k bI).rule⟩
def pL (s:aJ):Co:=fun v=>if v=⟨0,0,0⟩ then s.n else if v=⟨1,0,0⟩ then s.t else if v=⟨2,0,0⟩ then s.f else 0
def cS (c:az) (v:Vb):Nat->Int
 |0=>0
 |i+1=>cS c v i+if v=fV c i then 1 else 0
def cT (c:az) (xs:List bH) (seg:List Int) (v:Vb):Nat->Int
 |0=>0
 |k+1=>cT c xs seg v k+if v=lJ c xs seg k then 1 else 0
def ml (s:aJ) (c:az) (xs:List bH) (seg:List Int) (n m:Nat):Co:=fun v=>pL s v+cS c v n+cT c xs seg v m
theorem Nr (s:aJ) (c:az) (xs:List bH) (seg:List Int) (n:Nat):cR (ml s c xs seg n 0) (fV c n) 1=ml s c xs seg (n+1) 0:=by
 funext v
 unfold cR ml
 rw[cS,cT]
 by_cases e:v=fV c n
 ·rw[if_pos e,if_pos e];omega
 ·rw[if_neg e,if_neg e];omega
theorem Ns (s:aJ) (c:az) (xs:List bH) (seg:List Int) (n m:Nat):cR (ml s c xs seg n m) (lJ c xs seg m) 1=ml s c xs seg n (m+1):=by
 funext v
 unfold cR ml
 rw[cT]
 by_cases e:v=lJ c xs seg m
 ·rw[if_pos e,if_pos e];omega
 ·rw[if_neg e,if_neg e];omega
theorem LY (c:az) (v:Vb):∀n:Nat,0<=cS c v n/\cS c v n<=n
 |0=>by simp[cS]
 |n+1=>by
  have:=LY c v n
  rw[cS]
  split<;>omega
theorem LZ (c:az) (xs:List bH) (seg:List Int) (v:Vb):∀n:Nat,0<=cT c xs seg v n/\cT c xs seg v n<=n
 |0=>by simp[cT]
 |n+1=>by
  have:=LZ c xs seg v n
  rw[cT]
  split<;>omega
theorem Bb {p:an} {s:aJ} {c:az} (h:dx p s c) {i:Int} (hi:i<c.states.length) (hc:¬i<c.correct):jC p:=by
 have hl:=h.vc.len
 have hcor:=h.vc.cor
 have hsz:=h.sz
 have ht:=(aL h.val).top
 have ha:=h.adm
 unfold jC
 by_cases h0:p.fault=0
 ·exfalso
  unfold gk at hl
  rw[if_neg (by omega)] at hl
  have hf:s.f=0:=by
   have a2:=ha.2.1
   unfold w7 at a2
   omega
  omega
 ·by_cases h3:p.fault=3
  ·exfalso
   unfold gk at hl
   rw[if_pos h3] at hl
   omega
  ·omega
theorem tH {p:an} {q:aG} {s:aJ} {c:az} {sch:List Int} (hp:aP p q=0) (ht:dZ p) (h:dx p s c) (hi:CM p q s c) {i:Nat} (hl:i<c.states.length):fV c i∈ak p q sch:=by
 have hm:=hi.2.2.2 i hl
 have hcor:=h.vc.cor
 have hv:=(aL (aF hp).vld).shp
 unfold CL at hm
 rw[if_neg (by have:=ht.1;omega)] at hm
 unfold fV
 by_cases hc:(i:Int)<c.correct
 ·rw[if_pos hc]
  rw[if_pos (by omega)] at hm
  exact ma.2 hm
 ·rw[if_neg hc]
  rw[if_neg (by omega)] at hm
  exact n5.2 ⟨Bb h (by omega) hc,hm⟩
theorem Gv {p:an} {q:aG} {sch:List Int} {j r:Nat} {kind:Int} (hj:j<=sch.length) (hr:r<p.rules.length) (ha:yY (ax p.rules) sch j (p.rules.getD r ap)) (hk:kind=5\/kind=6/\jC p):(⟨kind,j,r⟩:Vb)∈ak p q sch:=by
 unfold ak
 refine List.mem_append_right _ (List.mem_flatMap.2 ⟨j,List.mem_range.2 (by omega),?_⟩)
 unfold bN
 refine List.mem_flatMap.2 ⟨r,List.mem_range.2 hr,?_⟩
 unfold rm
 rw[if_pos ha]
 rcases hk with rfl|⟨rfl,hw⟩
 ·split<;>simp
 ·rw[if_pos hw];simp
theorem xH {p:an} {q:aG} {s:aJ} {c:az} {xs:List bH} (ht:dZ p) (h:dx p s c) (hr:ct p s c xs) {k:Nat} (hk:k<xs.length):lJ c xs (lH p s (cY p c xs) [] []).2 k∈ak p q (lH p s (cY p c xs) [] []).1:=by
 have hS:=ob p s (cY p c xs) [] []
 obtain⟨n,e1,e2,e3⟩:=hS.new k (by rw[fM];omega)
 rw[List.length_nil,Nat.zero_add] at e1
 have hst:=iJ h hr k hk
 have hrd:=jb h hr k (by omega)
 obtain⟨⟨⟨⟨r1,r2⟩,⟨q1,q2⟩⟩,he⟩,_,_⟩:=hst
 have hcc:((cY p c xs).getD k aU).correct=c.correct:=by
  have a:=hrd.vc.cor
  have b:=h.vc.cor
  omega
 obtain⟨r,er⟩:∃r:Nat,(xs.getD k bI).rule=r:=⟨(xs.getD k bI).rule.toNat,by omega⟩
 unfold lJ
 rw[e1,er]
 refine Gv e2 (by omega) (fun g hg=>?_) ?_
 ·have hri:r<p.rules.length:=by omega
  have hgm:=xg hri hg
  obtain⟨i,hi,ei⟩:=List.getElem_of_mem hgm
  obtain⟨jg,hjg,ejg⟩:=List.getElem_of_mem hg
  have hk1:=(ht.2.2 r hri).1
  have hkin:=he.2.2
  rw[er,tN] at hkin
  unfold uE at hkin
  rw[if_neg (by omega),if_pos hk1] at hkin
  have hgr:=hkin.2.1 jg hjg
  rw[av aC hjg,ejg] at hgr
  have hun:jH p s ((cY p c xs).getD k aU) i:=by
   unfold jH
   rw[av aC hi,ei]
   exact hgr
  have hmem:=e3 (i:Int) ((lD p s _).2 ⟨i,hi,rfl,hun⟩)
  obtain⟨m,hm,em⟩:=List.mem_take_iff_getElem.1 hmem
  refine⟨m,by omega,?_⟩
  rw[av (0:Int) (by omega),em,tN,av aC hi,ei]
 ·by_cases hp:(xs.getD k bI).process<c.correct
  ·rw[if_pos hp];exact .inl rfl
  ·rw[if_neg hp]
   exact .inr ⟨rfl,Bb hrd (i:=(xs.getD k bI).process) (by omega) (by omega)⟩
theorem vu {p:an} {s:aJ} (ht:dZ p):∀{xs:List bH} {c:az},dx p s c->ct p s c xs->lG c.states+xs.length<=48
 |[],c,h,_=>by have:=n6 h;simpa using this.2
 |x::xs,c,h,⟨h1,h2,h3⟩=>by
  have a:=vu ht (h.next h1 h2) h3
  have b:=Gn ht h1
  rw[List.length_cons]
  unfold ce at a b
  omega
set_option maxHeartbeats 16000000
theorem I4 (n:Int):ab Tryz.prog 171 [.int .i64 n] (fun u=>u= .bool (decide (n≠0))):=by
 refine ab.intro ae ag Tryz.func171 rfl (by decide) ?_;(conv=>whnf)
 refine ah ?_ ?_<;>(intro h;conv=>whnf)
 ·exact⟨aH h,rfl⟩
 ·exact⟨au h,rfl⟩
def Oo (l:List Int):Prop:=∃j,j<l.length/\l.getD j 0≠0
noncomputable instance (l:List Int):Decidable (Oo l):=Classical.propDecidable _
theorem L3 (l:List Int) (hl:l.length<=1000):ab Tryz.prog 249 [.sl 0 ao l, .fn 171 []] (fun u=>∃n:Int,u= .int .i64 n/\(0<=n↔Oo l)):=by
 refine ab.intro ae ag Tryz.func249 rfl (by decide) ?_;(conv=>whnf)
 refine aQ.loopF ae ag (fun k:Nat=>k<=l.length/\∀j,j<k->¬l.getD j 0≠0) (fun k=>[(8, .int .i64 (k:Int))]) (fun _=>[]) (fun k=>l.length-k) 0 ⟨by omega,fun j hj=>by omega⟩ ?_;conv=>whnf
 refine⟨sI,?_⟩
 rintro k ⟨hk,ha⟩
 conv=>whnf
 refine ah ?_ ?_<;>(intro h1;conv=>whnf)
 ·refine nI ?_
  rw[tN]
  conv=>whnf
  refine dC (I4 (l.getD k 0)) (fun _=>?_) (fun _=>?_)<;>(conv=>whnf)
  ·rename_i h2
   exact⟨⟨k,rfl,fun _=>⟨k,by omega,h2⟩,fun _=>by omega⟩,rfl⟩
  ·rename_i h2
   repeat' ((first|refine nI ?_|refine aI ?_|refine fb trivial (by omega) ?_|refine fv trivial (by omega) ?_|refine dI ?_|refine dR ?_|refine dP ?_|refine al rfl ?_|refine pI _ rfl ?_|refine aw _ rfl ?_|refine tI ?_|refine fI ?_|refine ah (fun _=>?_) (fun _=>?_))<;>conv=>whnf)
   refine⟨k+1,sI,⟨by omega,fun j hj=>?_⟩,by dsimp only;omega⟩
   by_cases e:j=k
   ·subst e;exact h2
   ·exact ha j (by omega)
 ·exact⟨⟨-1,rfl,fun h=>by omega,fun⟨j,h1,h2⟩=>absurd h2 (ha j (by omega))⟩,rfl⟩
theorem Gw (l:List Int) (hl:l.length<=1000):ab Tryz.prog 172 [.sl 0 ao l, .fn 171 []] (fun u=>u= .bool (decide (Oo l))):=by
 refine ab.intro ae ag Tryz.func172 rfl (by decide) ?_;(conv=>whnf)
 refine am.of_pure (n:=5) (L3 l hl) rfl ?_
 rintro _ ⟨n,rfl,hn⟩
 conv=>whnf
 refine ah ?_ ?_<;>(intro h;conv=>whnf)
 ·exact⟨aH (hn.1 h),rfl⟩
 ·exact⟨au (fun hh=>h (hn.2 hh)),rfl⟩
theorem Gx (p:an) (q:aG) (s:aJ) (c:az) (hp:aP p q=0) (ht:dZ p) (h:dx p s c):ab Tryz.prog 80 [.pd (dQ p q), .agg (aW c)] (fun u=>u= .bool (decide (CM p q s c))):=by
 have hw:=bE h.wide
 have hcor:=h.vc.cor
 have hsn:=h.vc.snl
 have hfn:=h.vc.fal
 have hld:=(aL h.val).shp
 have hch:∀i:Nat,CL p q s i=if(i:Int)<c.correct then bw p q else p.initial:=fun i=>by
  unfold CL
  rw[if_neg (by have:=ht.1;omega),hcor]
  rfl
 have hle:=bL h.big
 have hsl:(bw p q).length<=1000:=by
  have hn:=(aL h.val).len
  unfold bw
  split
  ·have:=bv (aF hp).start;omega
  ·omega
 refine ab.intro ae ag Tryz.func80 rfl (by decide) ?_;(conv=>whnf)
 refine al rfl ?_
 conv=>whnf
 refine ah ?_ ?_<;>(intro h1;conv=>whnf)
 ·exact⟨au (fun hh=>h1 hh.2.1),rfl⟩
 have hv:c.value=0:=Classical.not_not.1 h1
 refine dC (Gw c.sent (by omega)) (fun _=>?_) (fun _=>?_)<;>(conv=>whnf)
 ·rename_i h2
  exact⟨au (fun hh=>by obtain⟨j,hj,e⟩:=h2;exact e (hh.2.2.1 j hj).1),rfl⟩
 rename_i h2
 refine dC (Gw c.faulty (by omega)) (fun _=>?_) (fun _=>?_)<;>(conv=>whnf)
 ·rename_i h3
  exact⟨au (fun hh=>by obtain⟨j,hj,e⟩:=h3;exact e (hh.2.2.1 j (by omega)).2),rfl⟩
 rename_i h3
 have hz:∀j,j<c.sent.length->c.sent.getD j 0=0/\c.faulty.getD j 0=0:=fun j hj=>
  ⟨Classical.byContradiction fun e=>h2 ⟨j,hj,e⟩,Classical.byContradiction fun e=>h3 ⟨j,by omega,e⟩⟩
 refine aQ.loopF ae ag (fun k:Nat=>k<=c.states.length/\∀i,i<k->c.states.getD i 0∈CL p q s i) (fun k=>[(27, .int .i64 (k:Int))]) (fun _=>[]) (fun k=>c.states.length-k) 0 ⟨Nat.zero_le _,fun i hi=>absurd hi (Nat.not_lt_zero _)⟩ ?_;conv=>whnf
 refine⟨sI,?_⟩
 rintro k ⟨hk,ha⟩
 conv=>whnf
 refine ah ?_ ?_<;>(intro g1;conv=>whnf)
 rotate_left
 ·obtain rfl:k=c.states.length:=by omega
  exact⟨aH ⟨h.vc,hv,hz,ha⟩,rfl⟩
 have hck:=hch k
 refine nI ?_
 rw[tN]
 conv=>whnf
 refine ah ?_ ?_<;>(intro g2;conv=>whnf)
 ·rw[if_neg (by omega)] at hck
  refine dC (be p.initial (c.states.getD k 0) (by omega)) (fun _=>?_) (fun _=>?_)<;>(conv=>whnf)
  ·rename_i g3
   repeat' ((first|refine nI ?_|refine aI ?_|refine fb trivial (by omega) ?_|refine fv trivial (by omega) ?_|refine dI ?_|refine dR ?_|refine dP ?_|refine al rfl ?_|refine pI _ rfl ?_|refine aw _ rfl ?_|refine tI ?_|refine fI ?_|refine ah (fun _=>?_) (fun _=>?_))<;>conv=>whnf)
   refine⟨k+1,sI,⟨by omega,fun i hi=>?_⟩,by dsimp only;omega⟩
   by_cases e:i=k
   ·subst e;rw[hck];exact g3
   ·exact ha i (by omega)
  ·rename_i g3
   exact⟨au (fun hh=>g3 (by rw[<-hck];exact hh.2.2.2 k (by omega))),rfl⟩
 ·rw[if_pos (by omega)] at hck
  refine dC (be (bw p q) (c.states.getD k 0) (by omega)) (fun _=>?_) (fun _=>?_)<;>(conv=>whnf)
  ·rename_i g3
   repeat' ((first|refine nI ?_|refine aI ?_|refine fb trivial (by omega) ?_|refine fv trivial (by omega) ?_|refine dI ?_|refine dR ?_|refine dP ?_|refine al rfl ?_|refine pI _ rfl ?_|refine aw _ rfl ?_|refine tI ?_|refine fI ?_|refine ah (fun _=>?_) (fun _=>?_))<;>conv=>whnf)
   refine⟨k+1,sI,⟨by omega,fun i hi=>?_⟩,by dsimp only;omega⟩
   by_cases e:i=k
   ·subst e;rw[hck];exact g3
   ·exact ha i (by omega)
  ·rename_i g3
   exact⟨au (fun hh=>g3 (by rw[<-hck];exact hh.2.2.2 k (by omega))),rfl⟩
theorem Gy {p:an} {q:aG} {s:aJ} (h:kN p q s=0):aP p q=0/\dZ p/\cr p s=0/\pT p q s=0:=by
 have hc:=vr h
 have hp:=db hc
 have ht:=(qc hc).1
 unfold kN at h
 rw[if_neg (fun y=>y hp)] at h
 have hz:sG p s=0:=by
  by_cases h2:sG p s≠0
  ·rw[if_pos h2] at h;exact h
  ·exact Classical.not_not.1 h2
 have hs:cr p s=0:=by
  unfold cr
  rw[if_neg (fun y=>y (aF hp).vld)]
  exact hz
 refine⟨hp,ht,hs,?_⟩
 unfold pT
 rw[if_neg (fun y=>y hp)]
 exact hs
def I5 (p:an) (q:aG) (s:aJ) (r:Rn):Prop:=VC p s r.start/\ct p s r.start r.steps/\CM p q s r.start
noncomputable instance (p:an) (q:aG) (s:aJ) (r:Rn):Decidable (I5 p q s r):=Classical.propDecidable _
noncomputable def d8 (p:an) (s:aJ) (r:Rn):List Int×List Int:=lH p s (cY p r.start r.steps) [] []
noncomputable def Mj (p:an) (q:aG) (s:aJ) (r:Rn):List Int×List Int×Int:=
 if kN p q s≠0 then([],[],kN p q s) else if¬I5 p q s r then([],[],10)
 else((d8 p s r).1,(ak p q (d8 p s r).1).map (ml s r.start r.steps (d8 p s r).2 r.start.states.length r.steps.length),0)
def I6 (a:List Int×List Int×Int):AV:=.tup [.sl 0 ao a.1, .sl 0 ao a.2.1, .int .i64 a.2.2]
theorem ab.pj {f:FuncId} {args:List AV} {a:List Int×List Int×Int} (h:ab Tryz.prog f args (fun u=>u=I6 a\/(a.1=[]/\a.2.1=[]/\u= .tup [.nilsl, .nilsl, .int .i64 a.2.2]))):ab Tryz.prog f args (fun u=>u=I6 a):=
 ab.sub h (by
  rintro _ (rfl|⟨h1,h2,rfl⟩)
  ·exact⟨_,rfl,by unfold I6;repeat' (first|exact True.intro|exact rfl|(refine And.intro ?_ ?_)|((conv=>whnf);omega)|((conv=>whnf);simp only[List.length_append,List.length_cons,List.length_nil];done)|((conv=>whnf);simp only[List.length_append,List.length_cons,List.length_nil];omega)),rfl⟩
  ·exact⟨_,rfl,by unfold I6;rw[h1,h2];repeat' (first|exact True.intro|exact rfl|(refine And.intro ?_ ?_)|((conv=>whnf);omega)|((conv=>whnf);simp only[List.length_append,List.length_cons,List.length_nil];done)|((conv=>whnf);simp only[List.length_append,List.length_cons,List.length_nil];omega)),rfl⟩)
structure r9 (p:an) (q:aG) (s:aJ) (r:Rn):Prop where
 prp:aP p q=0
 thr:dZ p
 rdy:dx p s r.start
 run:ct p s r.start r.steps
 ini:CM p q s r.start
 len:r.steps.length<=48
 sta:r.start.states.length<=8
 sch:da (ax p.rules).length (d8 p s r).1
 seg:(d8 p s r).2.length=r.steps.length+1
theorem JX {p:an} {q:aG} {s:aJ} {r:Rn} (h:kN p q s=0) (hr:I5 p q s r):r9 p q s r:=by
 obtain⟨hp,ht,hz,_⟩:=Gy h
 have hv:=(aF hp).vld
 have rd:=zo (AO hz hr.1)
 have hS:=ob p s (cY p r.start r.steps) [] []
 have hl:=vu ht rd hr.2.1
 have hp0:=n6 rd
 have hst:=rd.vc.len
 have hsz:=rd.sz
 have hm:gk p s<=8:=by unfold gk;split<;>omega
 refine⟨hp,ht,rd,hr.2.1,hr.2.2,by omega,by omega,LX (hS.nod (by simp)) (hS.rng (fun x hx=>by cases hx)),?_⟩
 have:=hS.sgl
 rw[fM] at this
 unfold d8
 simpa using this
theorem Gz (p:an) (q:aG) (sch:List Int) (s:aJ):(((List.replicate (ak p q sch).length (0:Int)).set 0 s.n).set 1 s.t).set 2 s.f=(ak p q sch).map (pL s):=by
 obtain⟨rest,hr⟩:∃rest,ak p q sch=⟨0,0,0⟩::⟨1,0,0⟩::⟨2,0,0⟩::rest:=⟨pP p q++(List.range (sch.length+1)).flatMap fun j=>bN p sch j p.rules.length,by
  unfold ak
  rw[List.append_assoc]
  rfl⟩
 have hk:∀v∈rest,pL s v=0:=fun v hv=>by
  have hn:3<=v.kind:=by
   have e:rest=pP p q++(List.range (sch.length+1)).flatMap fun j=>bN p sch j p.rules.length:=by
    have h2:ak p q sch=⟨0,0,0⟩::⟨1,0,0⟩::⟨2,0,0⟩::(pP p q++(List.range (sch.length+1)).flatMap fun j=>bN p sch j p.rules.length):=by
     unfold ak
     rw[List.append_assoc]
     rfl
    rw[hr] at h2
    injection h2 with _ h2
    injection h2 with _ h2
    injection h2 with _ h2
   rw[e] at hv
   rcases List.mem_append.1 hv with hv|hv
   ·unfold pP at hv
    rcases List.mem_append.1 hv with hv|hv
    ·obtain⟨x,_,rfl⟩:=List.mem_map.1 hv;dsimp only;omega
    ·split at hv
     ·obtain⟨x,_,rfl⟩:=List.mem_map.1 hv;dsimp only;omega
     ·cases hv
   ·obtain⟨j,_,hv⟩:=List.mem_flatMap.1 hv
    obtain⟨r,_,hv⟩:=dp hv
    have:=(d4 hv).1
    omega
  unfold pL
  rw[if_neg (fun e=>by subst e;dsimp only at hn;omega),if_neg (fun e=>by subst e;dsimp only at hn;omega),if_neg (fun e=>by subst e;dsimp only at hn;omega)]
 rw[hr,List.map_cons,List.map_cons,List.map_cons,List.length_cons,List.length_cons,List.length_cons,List.replicate_succ,List.replicate_succ,List.replicate_succ]
 have hm:rest.map (pL s)=List.replicate rest.length 0:=List.map_eq_replicate_iff.2 hk
 rw[hm]
 rfl
end Go.Proofs.YtekmminpfhacpaaGreatDoor
