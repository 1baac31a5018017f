import Derived.Test.YtekmminpfhacpaaGreatDoorFS
set_option linter.unusedVariables false
set_option linter.unusedSimpArgs false
namespace Go.Proofs.YtekmminpfhacpaaGreatDoor
set_option maxRecDepth 100000
set_option maxHeartbeats 16000000
set_option maxHeartbeats 4000000
def fb:List Int->List Int->List Int
 |sch,[]=>sch
 |sch,g::gs=>if g∈sch then fb sch gs else fb (sch++[g]) gs
theorem ud:∀(gs sch:List Int),∃t,fb sch gs=sch++t
 |[],sch=>⟨[],by simp[fb]⟩
 |g::gs,sch=>by
  unfold fb
  split
  ·exact ud gs sch
  ·obtain⟨t,h⟩:=ud gs (sch++[g])
   exact⟨g::t,by rw[h];simp⟩
theorem pT:∀{gs sch:List Int} {x:Int},x∈fb sch gs↔x∈sch\/x∈gs
 |[],sch,x=>by simp[fb]
 |g::gs,sch,x=>by
  unfold fb
  split
  ·rename_i h
   rw[pT]
   constructor
   ·rintro(h|h)
    ·exact .inl h
    ·exact .inr (List.mem_cons_of_mem _ h)
   ·rintro(h1|h1)
    ·exact .inl h1
    ·rcases List.mem_cons.1 h1 with rfl|h1
     ·exact .inl h
     ·exact .inr h1
  ·rw[pT,List.mem_append,List.mem_singleton,List.mem_cons]
   constructor
   ·rintro((h|h)|h)
    ·exact .inl h
    ·exact .inr (.inl h)
    ·exact .inr (.inr h)
   ·rintro(h|h|h)
    ·exact .inl (.inl h)
    ·exact .inl (.inr h)
    ·exact .inr h
theorem ox:∀{gs sch:List Int},sch.Nodup->(fb sch gs).Nodup
 |[],sch,h=>h
 |g::gs,sch,h=>by
  unfold fb
  split
  ·exact ox h
  ·rename_i hn
   refine ox ?_
   rw[List.nodup_append]
   refine⟨h,by simp,fun a ha b hb e=>?_⟩
   rw[List.mem_singleton] at hb
   subst hb;subst e
   exact hn ha
noncomputable def qS (p:ap) (s:aN):List aD->List Int->List Int->List Int×List Int
 |[],sch,seg=>(sch,seg)
 |c::l,sch,seg=>qS p s l (fb sch (fJ p s c (aA p.rules).length)) (seg++[((fb sch (fJ p s c (aA p.rules).length)).length:Int)])
structure Si (p:ap) (s:aN) (l:List aD) (sch seg:List Int) (R:List Int×List Int):Prop where
 pre:∃t,R.1=sch++t
 sgl:R.2.length=seg.length+l.length
 old:∀k,k<seg.length->R.2.getD k 0=seg.getD k 0
 new:∀k,k<l.length->∃n:Nat,R.2.getD (seg.length+k) 0=n/\n<=R.1.length/\∀x∈fJ p s (l.getD k cf) (aA p.rules).length,x∈R.1.take n
 nod:sch.Nodup->R.1.Nodup
 rng:(∀x∈sch,0<=x/\x<((aA p.rules).length:Int))->∀x∈R.1,0<=x/\x<((aA p.rules).length:Int)
theorem sc (p:ap) (s:aN):∀(l:List aD) (sch seg:List Int),Si p s l sch seg (qS p s l sch seg)
 |[],sch,seg=>⟨⟨[],by simp[qS]⟩,by simp[qS],fun k hk=>rfl,fun k hk=>by simp at hk,id,id⟩
 |c::l,sch,seg=>by
  obtain⟨t0,h0⟩:=ud (fJ p s c (aA p.rules).length) sch
  obtain⟨⟨t,h1⟩,h2,h3,h4,h5,h6⟩:=sc p s l (fb sch (fJ p s c (aA p.rules).length)) (seg++[((fb sch (fJ p s c (aA p.rules).length)).length:Int)])
  have hl:(seg++[((fb sch (fJ p s c (aA p.rules).length)).length:Int)]).length=seg.length+1:=by simp
  rw[hl] at h2 h3 h4
  have e:qS p s (c::l) sch seg=qS p s l (fb sch (fJ p s c (aA p.rules).length)) (seg++[((fb sch (fJ p s c (aA p.rules).length)).length:Int)]):=rfl
  rw[e]
  refine⟨⟨t0++t,by rw[h1,h0,List.append_assoc]⟩,by rw[h2,List.length_cons];omega,fun k hk=>?_,fun k hk=>?_,fun hn=>h5 (ox hn),fun hr=>h6 fun x hx=>?_⟩
  ·rw[h3 k (by omega),gD,List.getElem?_append_left hk,<-gD]
  ·cases k with
   |zero=>
    refine⟨(fb sch (fJ p s c (aA p.rules).length)).length,?_,by rw[h1,List.length_append];omega,fun x hx=>?_⟩
    ·rw[Nat.add_zero,h3 _ (by omega),gD,List.getElem?_append_right (Nat.le_refl _),Nat.sub_self]
     rfl
    ·rw[h1,List.take_left]
     exact pT.2 (.inr hx)
   |succ k=>
    obtain⟨n,a,b,d⟩:=h4 k (by rw[List.length_cons] at hk;omega)
    refine⟨n,?_,b,d⟩
    rw[<-a]
    congr 1
    omega
  ·rcases pT.1 hx with hx|hx
   ·exact hr x hx
   ·obtain⟨i,hi,rfl,_⟩:=(t4 p s c).1 hx
    omega
def mW (c:aD) (i:Nat):Vb:=⟨if(i:Int)<c.correct then 3 else 4,0,c.states.getD i 0⟩
def sd (c:aD) (xs:List bX) (seg:List Int) (k:Nat):Vb:=⟨if(xs.getD k cX).process<c.correct then 5 else 6,seg.getD k 0,(xs.getD k cX).rule⟩
def BU (s:aN):Co:=fun v=>if v=⟨0,0,0⟩ then s.n else if v=⟨1,0,0⟩ then s.t else if v=⟨2,0,0⟩ then s.f else 0
def cS (c:aD) (v:Vb):Nat->Int
 |0=>0
 |i+1=>cS c v i+if v=mW c i then 1 else 0
def cT (c:aD) (xs:List bX) (seg:List Int) (v:Vb):Nat->Int
 |0=>0
 |k+1=>cT c xs seg v k+if v=sd c xs seg k then 1 else 0
def O3 (s:aN) (c:aD) (xs:List bX) (seg:List Int) (n m:Nat):Co:=fun v=>BU s v+cS c v n+cT c xs seg v m
theorem Dp {p:ap} {s:aN} {c:aD} (h:fp p s c) {i:Int} (hi:i<c.states.length) (hc:¬i<c.correct):lx p:=by
 have hl:=h.vc.len
 have hcor:=h.vc.cor
 have hsz:=h.sz
 have ht:=(a9 h.val).top
 have ha:=h.adm
 unfold lx
 by_cases h0:p.fault=0
 ·exfalso
  unfold iy at hl
  rw[if_neg (by omega)] at hl
  have hf:s.f=0:=by
   have a2:=ha.2.1
   unfold Be at a2
   omega
  omega
 ·by_cases h3:p.fault=3
  ·exfalso
   unfold iy at hl
   rw[if_pos h3] at hl
   omega
  ·omega
theorem Fb {p:ap} {q:aJ} {s:aN} {c:aD} {sch:List Int} (hp:bF p q=0) (ht:io p) (h:fp p s c) (hi:MO p q s c) {i:Nat} (hl:i<c.states.length):mW c i∈ao p q sch:=by
 have hm:=hi.2.2.2 i hl
 have hcor:=h.vc.cor
 have hv:=(a9 (bf hp).vld).shp
 unfold Sc at hm
 rw[if_neg (by have:=ht.1;omega)] at hm
 unfold mW
 by_cases hc:(i:Int)<c.correct
 ·rw[if_pos hc]
  rw[if_pos (by omega)] at hm
  exact nu.2 hm
 ·rw[if_neg hc]
  rw[if_neg (by omega)] at hm
  exact pR.2 ⟨Dp h (by omega) hc,hm⟩
theorem II {p:ap} {q:aJ} {sch:List Int} {j r:Nat} {kind:Int} (hj:j<=sch.length) (hr:r<p.rules.length) (ha:EL (aA p.rules) sch j (p.rules.getD r au)) (hk:kind=5\/kind=6/\lx p):(⟨kind,j,r⟩:Vb)∈ao p q sch:=by
 unfold ao
 refine List.mem_append_right _ (List.mem_flatMap.2 ⟨j,List.mem_range.2 (by omega),?_⟩)
 unfold dW
 refine List.mem_flatMap.2 ⟨r,List.mem_range.2 hr,?_⟩
 unfold za
 rw[if_pos ha]
 rcases hk with rfl|⟨rfl,hw⟩
 ·split<;>simp
 ·rw[if_pos hw];simp
theorem IJ {p:ap} {q:aJ} {s:aN} {c:aD} {xs:List bX} (ht:io p) (h:fp p s c) (hr:dB p s c xs) {k:Nat} (hk:k<xs.length):sd c xs (qS p s (kT p c xs) [] []).2 k∈ao p q (qS p s (kT p c xs) [] []).1:=by
 have hS:=sc p s (kT p c xs) [] []
 obtain⟨n,e1,e2,e3⟩:=hS.new k (by rw[xG];omega)
 rw[List.length_nil,Nat.zero_add] at e1
 have hst:=jt h hr k hk
 have hrd:=pS h hr k (by omega)
 obtain⟨⟨⟨⟨r1,r2⟩,⟨q1,q2⟩⟩,he⟩,_,_⟩:=hst
 have hcc:((kT p c xs).getD k cf).correct=c.correct:=by
  have a:=hrd.vc.cor
  have b:=h.vc.cor
  omega
 obtain⟨r,er⟩:∃r:Nat,(xs.getD k cX).rule=r:=⟨(xs.getD k cX).rule.toNat,by omega⟩
 unfold sd
 rw[e1,er]
 refine II e2 (by omega) (fun g hg=>?_) ?_
 ·have hri:r<p.rules.length:=by omega
  have hgm:=zh hri hg
  obtain⟨i,hi,ei⟩:=List.getElem_of_mem hgm
  obtain⟨jg,hjg,ejg⟩:=List.getElem_of_mem hg
  have hk1:=(ht.2.2 r hri).1
  have hkin:=he.2.2
  rw[er,tN] at hkin
  unfold Bn at hkin
  rw[if_neg (by omega),if_pos hk1] at hkin
  have hgr:=hkin.2.1 jg hjg
  rw[am aW hjg,ejg] at hgr
  have hun:nO p s ((kT p c xs).getD k cf) i:=by
   unfold nO
   rw[am aW hi,ei]
   exact hgr
  have hmem:=e3 (i:Int) ((t4 p s _).2 ⟨i,hi,rfl,hun⟩)
  obtain⟨m,hm,em⟩:=List.mem_take_iff_getElem.1 hmem
  refine⟨m,by omega,?_⟩
  rw[am (0:Int) (by omega),em,tN,am aW hi,ei]
 ·by_cases hp:(xs.getD k cX).process<c.correct
  ·rw[if_pos hp];exact .inl rfl
  ·rw[if_neg hp]
   exact .inr ⟨rfl,Dp hrd (i:=(xs.getD k cX).process) (by omega) (by omega)⟩
theorem Dq {p:ap} {s:aN} (ht:io p):∀{xs:List bX} {c:aD},fp p s c->dB p s c xs->mV c.states+xs.length<=48
 |[],c,h,_=>by have:=sb h;simpa using this.2
 |x::xs,c,h,⟨h1,h2,h3⟩=>by
  have a:=Dq ht (h.next h1 h2) h3
  have b:=IH ht h1
  rw[List.length_cons]
  unfold cQ at a b
  omega
def S5 (l:List Int):Prop:=∃j,j<l.length/\l.getD j 0≠0
noncomputable instance (l:List Int):Decidable (S5 l):=Classical.propDecidable _
def Sj (p:ap) (q:aJ) (s:aN) (r:Rn):Prop:=VC p s r.start/\dB p s r.start r.steps/\MO p q s r.start
noncomputable instance (p:ap) (q:aJ) (s:aN) (r:Rn):Decidable (Sj p q s r):=Classical.propDecidable _
noncomputable def QS (p:ap) (s:aN) (r:Rn):List Int×List Int:=qS p s (kT p r.start r.steps) [] []
structure QT (p:ap) (q:aJ) (s:aN) (r:Rn):Prop where
 prp:bF p q=0
 thr:io p
 rdy:fp p s r.start
 run:dB p s r.start r.steps
 ini:MO p q s r.start
 len:r.steps.length<=48
 sta:r.start.states.length<=8
 sch:dM (aA p.rules).length (QS p s r).1
 seg:(QS p s r).2.length=r.steps.length+1
end Go.Proofs.YtekmminpfhacpaaGreatDoor
