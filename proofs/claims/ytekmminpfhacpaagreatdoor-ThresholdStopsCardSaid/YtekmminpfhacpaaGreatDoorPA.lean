import Derived.Test.YtekmminpfhacpaaGreatDoorFS
import Derived.Test.YtekmminpfhacpaaGreatDoorFZ2
set_option linter.unusedVariables false
set_option linter.unusedSimpArgs false
namespace Go.Proofs.YtekmminpfhacpaaGreatDoor
set_option maxRecDepth 100000
set_option maxHeartbeats 4000000
def cD:List Int->List Int->List Int
 |sch,[]=>sch
 |sch,g::gs=>if g∈sch then cD sch gs else cD (sch++[g]) gs
theorem pi:∀(gs sch:List Int),∃t,cD sch gs=sch++t
 |[],sch=>⟨[],by simp[cD]⟩
 |g::gs,sch=>by
  unfold cD
  split
  ·exact pi gs sch
  ·obtain⟨t,h⟩:=pi gs (sch++[g])
   exact⟨g::t,by rw[h];simp⟩
theorem lU:∀{gs sch:List Int} {x:Int},x∈cD sch gs↔x∈sch\/x∈gs
 |[],sch,x=>by simp[cD]
 |g::gs,sch,x=>by
  unfold cD
  split
  ·rename_i h
   rw[lU]
   constructor
   ·rintro(h|h)
    ·exact .inl h
    ·exact .inr (List.mem_cons_of_mem _ h)
   ·rintro(h1|h1)
    ·exact .inl h1
    ·rcases List.mem_cons.1 h1 with rfl|h1
     ·exact .inl h
     ·exact .inr h1
  ·rw[lU,List.mem_append,List.mem_singleton,List.mem_cons]
   constructor
   ·rintro((h|h)|h)
    ·exact .inl h
    ·exact .inr (.inl h)
    ·exact .inr (.inr h)
   ·rintro(h|h|h)
    ·exact .inl (.inl h)
    ·exact .inl (.inr h)
    ·exact .inr h
theorem kH:∀{gs sch:List Int},sch.Nodup->(cD sch gs).Nodup
 |[],sch,h=>h
 |g::gs,sch,h=>by
  unfold cD
  split
  ·exact kH h
  ·rename_i hn
   refine kH ?_
   rw[List.nodup_append]
   refine⟨h,by simp,fun a ha b hb e=>?_⟩
   rw[List.mem_singleton] at hb
   subst hb;subst e
   exact hn ha
noncomputable def j' (p:an) (s:aC):List ay->List Int->List Int->List Int×List Int
 |[],sch,seg=>(sch,seg)
 |c::l,sch,seg=>j' p s l (cD sch (cq p s c (ar p.rules).length)) (seg++[((cD sch (cq p s c (ar p.rules).length)).length:Int)])
structure Iq (p:an) (s:aC) (l:List ay) (sch seg:List Int) (R:List Int×List Int):Prop where
 pre:∃t,R.1=sch++t
 sgl:R.2.length=seg.length+l.length
 old:∀k,k<seg.length->R.2.getD k 0=seg.getD k 0
 new:∀k,k<l.length->∃n:Nat,R.2.getD (seg.length+k) 0=n/\n<=R.1.length/\∀x∈cq p s (l.getD k aX) (ar p.rules).length,x∈R.1.take n
 nod:sch.Nodup->R.1.Nodup
 rng:(∀x∈sch,0<=x/\x<((ar p.rules).length:Int))->∀x∈R.1,0<=x/\x<((ar p.rules).length:Int)
theorem lV (p:an) (s:aC):∀(l:List ay) (sch seg:List Int),Iq p s l sch seg (j' p s l sch seg)
 |[],sch,seg=>⟨⟨[],by simp[j']⟩,by simp[j'],fun k hk=>rfl,fun k hk=>by simp at hk,id,id⟩
 |c::l,sch,seg=>by
  obtain⟨t0,h0⟩:=pi (cq p s c (ar p.rules).length) sch
  obtain⟨⟨t,h1⟩,h2,h3,h4,h5,h6⟩:=lV p s l (cD sch (cq p s c (ar p.rules).length)) (seg++[((cD sch (cq p s c (ar p.rules).length)).length:Int)])
  have hl:(seg++[((cD sch (cq p s c (ar p.rules).length)).length:Int)]).length=seg.length+1:=by simp
  rw[hl] at h2 h3 h4
  have e:j' p s (c::l) sch seg=j' p s l (cD sch (cq p s c (ar p.rules).length)) (seg++[((cD sch (cq p s c (ar p.rules).length)).length:Int)]):=rfl
  rw[e]
  refine⟨⟨t0++t,by rw[h1,h0,List.append_assoc]⟩,by rw[h2,List.length_cons];omega,fun k hk=>?_,fun k hk=>?_,fun hn=>h5 (kH hn),fun hr=>h6 fun x hx=>?_⟩
  ·rw[h3 k (by omega),gD,List.getElem?_append_left hk,<-gD]
  ·cases k with
   |zero=>
    refine⟨(cD sch (cq p s c (ar p.rules).length)).length,?_,by rw[h1,List.length_append];omega,fun x hx=>?_⟩
    ·rw[Nat.add_zero,h3 _ (by omega),gD,List.getElem?_append_right (Nat.le_refl _),Nat.sub_self]
     rfl
    ·rw[h1,List.take_left]
     exact lU.2 (.inr hx)
   |succ k=>
    obtain⟨n,a,b,d⟩:=h4 k (by rw[List.length_cons] at hk;omega)
    refine⟨n,?_,b,d⟩
    rw[<-a]
    congr 1
    omega
  ·rcases lU.1 hx with hx|hx
   ·exact hr x hx
   ·obtain⟨i,hi,rfl,_⟩:=(lP p s c).1 hx
    omega
theorem F8 {n:Nat} {l:List Int} (h1:l.Nodup) (h2:∀x∈l,0<=x/\x<(n:Int)):eM n l:=by
 intro i hi
 refine⟨h2 _ (bi 0 hi),fun hm=>?_⟩
 obtain⟨j,hj,e⟩:=List.mem_take_iff_getElem.1 hm
 rw[au 0 hi] at e
 have:=(List.getElem_inj h1).1 e
 omega
def kI (c:ay) (i:Nat):Vb:=⟨if(i:Int)<c.correct then 3 else 4,0,c.states.getD i 0⟩
def qG (c:ay) (xs:List cj) (seg:List Int) (k:Nat):Vb:=⟨if(xs.getD k cH).process<c.correct then 5 else 6,seg.getD k 0,(xs.getD k cH).rule⟩
def BG (s:aC):Co:=fun v=>if v=⟨0,0,0⟩ then s.n else if v=⟨1,0,0⟩ then s.t else if v=⟨2,0,0⟩ then s.f else 0
def cS (c:ay) (v:Vb):Nat->Int
 |0=>0
 |i+1=>cS c v i+if v=kI c i then 1 else 0
def cT (c:ay) (xs:List cj) (seg:List Int) (v:Vb):Nat->Int
 |0=>0
 |k+1=>cT c xs seg v k+if v=qG c xs seg k then 1 else 0
def yr (s:aC) (c:ay) (xs:List cj) (seg:List Int) (n m:Nat):Co:=fun v=>BG s v+cS c v n+cT c xs seg v m
theorem F9 (c:ay) (v:Vb):∀n:Nat,0<=cS c v n/\cS c v n<=n
 |0=>by simp[cS]
 |n+1=>by
  have:=F9 c v n
  rw[cS]
  split<;>omega
theorem F' (c:ay) (xs:List cj) (seg:List Int) (v:Vb):∀n:Nat,0<=cT c xs seg v n/\cT c xs seg v n<=n
 |0=>by simp[cT]
 |n+1=>by
  have:=F' c xs seg v n
  rw[cT]
  split<;>omega
theorem DL {p:an} {s:aC} {c:ay} (h:dk p s c) {i:Int} (hi:i<c.states.length) (hc:¬i<c.correct):pA p:=by
 have hl:=h.vc.len
 have hcor:=h.vc.cor
 have hsz:=h.sz
 have ht:=(bk h.val).top
 have ha:=h.adm
 unfold pA
 by_cases h0:p.fault=0
 ·exfalso
  unfold io at hl
  rw[if_neg (by omega)] at hl
  have hf:s.f=0:=by
   have a2:=ha.2.1
   unfold py at a2
   omega
  omega
 ·by_cases h3:p.fault=3
  ·exfalso
   unfold io at hl
   rw[if_pos h3] at hl
   omega
  ·omega
theorem BH {p:an} {q:aE} {sch:List Int} {j r:Nat} {kind:Int} (hj:j<=sch.length) (hr:r<p.rules.length) (ha:xR (ar p.rules) sch j (p.rules.getD r aq)) (hk:kind=5\/kind=6/\pA p):(⟨kind,j,r⟩:Vb)∈bI p q sch:=by
 unfold bI
 refine List.mem_append_right _ (List.mem_flatMap.2 ⟨j,List.mem_range.2 (by omega),?_⟩)
 unfold bE
 refine List.mem_flatMap.2 ⟨r,List.mem_range.2 hr,?_⟩
 unfold pn
 rw[if_pos ha]
 rcases hk with rfl|⟨rfl,hw⟩
 ·split<;>simp
 ·rw[if_pos hw];simp
theorem BI {p:an} {q:aE} {s:aC} {c:ay} {xs:List cj} (ht:c9 p) (h:dk p s c) (hr:bN p s c xs) {k:Nat} (hk:k<xs.length):qG c xs (j' p s (cE p c xs) [] []).2 k∈bI p q (j' p s (cE p c xs) [] []).1:=by
 have hS:=lV p s (cE p c xs) [] []
 obtain⟨n,e1,e2,e3⟩:=hS.new k (by rw[fm];omega)
 rw[List.length_nil,Nat.zero_add] at e1
 have hst:=ue h hr k hk
 have hrd:=i6 h hr k (by omega)
 obtain⟨⟨⟨⟨r1,r2⟩,⟨q1,q2⟩⟩,he⟩,_,_⟩:=hst
 have hcc:((cE p c xs).getD k aX).correct=c.correct:=by
  have a:=hrd.vc.cor
  have b:=h.vc.cor
  omega
 obtain⟨r,er⟩:∃r:Nat,(xs.getD k cH).rule=r:=⟨(xs.getD k cH).rule.toNat,by omega⟩
 unfold qG
 rw[e1,er]
 refine BH e2 (by omega) (fun g hg=>?_) ?_
 ·have hri:r<p.rules.length:=by omega
  have hgm:=tS hri hg
  obtain⟨i,hi,ei⟩:=List.getElem_of_mem hgm
  obtain⟨jg,hjg,ejg⟩:=List.getElem_of_mem hg
  have hk1:=(ht.2.2 r hri).1
  have hkin:=he.2.2
  rw[er,tN] at hkin
  unfold pz at hkin
  rw[if_neg (by omega),if_pos hk1] at hkin
  have hgr:=hkin.2.1 jg hjg
  rw[au aA hjg,ejg] at hgr
  have hun:uc p s ((cE p c xs).getD k aX) i:=by
   unfold uc
   rw[au aA hi,ei]
   exact hgr
  have hmem:=e3 (i:Int) ((lP p s _).2 ⟨i,hi,rfl,hun⟩)
  obtain⟨m,hm,em⟩:=List.mem_take_iff_getElem.1 hmem
  refine⟨m,by omega,?_⟩
  rw[au (0:Int) (by omega),em,tN,au aA hi,ei]
 ·by_cases hp:(xs.getD k cH).process<c.correct
  ·rw[if_pos hp];exact .inl rfl
  ·rw[if_neg hp]
   exact .inr ⟨rfl,DL hrd (i:=(xs.getD k cH).process) (by omega) (by omega)⟩
theorem r7 {p:an} {s:aC} (ht:c9 p):∀{xs:List cj} {c:ay},dk p s c->bN p s c xs->iv c.states+xs.length<=48
 |[],c,h,_=>by have:=gT h;simpa using this.2
 |x::xs,c,h,⟨h1,h2,h3⟩=>by
  have a:=r7 ht (h.next h1 h2) h3
  have b:=r4 ht h1
  rw[List.length_cons]
  unfold cN at a b
  omega
set_option maxHeartbeats 16000000
def I2 (l:List Int):Prop:=∃j,j<l.length/\l.getD j 0≠0
noncomputable instance (l:List Int):Decidable (I2 l):=Classical.propDecidable _
theorem vN {p:an} {q:aE} {s:aC} (h:lR p q s=0):aU p q=0/\c9 p/\aJ p s=0/\lQ p q s=0:=by
 have hc:=DI h
 have hp:=gp hc
 have ht:=(rN hc).1
 unfold lR at h
 rw[if_neg (fun y=>y hp)] at h
 have hz:r5 p s=0:=by
  by_cases h2:r5 p s≠0
  ·rw[if_pos h2] at h;exact h
  ·exact Classical.not_not.1 h2
 have hs:aJ p s=0:=by
  unfold aJ
  rw[if_neg (fun y=>y (bl hp).vld)]
  exact hz
 refine⟨hp,ht,hs,?_⟩
 unfold lQ
 rw[if_neg (fun y=>y hp)]
 exact hs
theorem vO (p:an) (q:aE) (s:aC) (c:ay) (hp:¬cp p) (hq:¬iX q) (hw:bh c=false) (h0:lQ p q s=0):ab Tryz.prog 65 [.agg (aB p), .agg (cJ q), .agg (bv s), .agg (bd c)] (fun u=>u= .bool (decide (um p q s c))):=by
 have hz:=wV h0
 refine ab.intro ac ae Tryz.func65 rfl (by decide) ?_;(conv=>whnf)
 refine ak rfl ?_
 conv=>whnf
 refine ak rfl ?_
 conv=>whnf
 refine ak rfl ?_
 conv=>whnf
 refine ak rfl ?_
 conv=>whnf
 (refine oP (pg p q s hp hq) ?_;conv=>whnf)
 refine tI ?_
 conv=>whnf
 refine dC (vL p q s c hp hq hw hz.2) (fun _=>?_) (fun _=>?_)<;>(conv=>whnf)
 ·rename_i h;exact⟨av h,rfl⟩
 ·rename_i h;exact⟨al h,rfl⟩
def DM (p:an) (q:aE) (s:aC) (r:Rn):Prop:=VC p s r.start/\bN p s r.start r.steps/\um p q s r.start
noncomputable instance (p:an) (q:aE) (s:aC) (r:Rn):Decidable (DM p q s r):=Classical.propDecidable _
noncomputable def pD (p:an) (s:aC) (r:Rn):List Int×List Int:=j' p s (cE p r.start r.steps) [] []
noncomputable def Gp (p:an) (q:aE) (s:aC) (r:Rn):List Int×List Int×Int:=
 if lR p q s≠0 then([],[],lR p q s) else if¬DM p q s r then([],[],10)
 else((pD p s r).1,(bI p q (pD p s r).1).map (yr s r.start r.steps (pD p s r).2 r.start.states.length r.steps.length),0)
def Ga (a:List Int×List Int×Int):AV:=.tup [.sl 0 ao a.1, .sl 0 ao a.2.1, .int .i64 a.2.2]
theorem ab.pj {f:FuncId} {args:List AV} {a:List Int×List Int×Int} (h:ab Tryz.prog f args (fun u=>u=Ga a\/(a.1=[]/\a.2.1=[]/\u= .tup [.nilsl, .nilsl, .int .i64 a.2.2]))):ab Tryz.prog f args (fun u=>u=Ga a):=
 ab.sub h (by
  rintro _ (rfl|⟨h1,h2,rfl⟩)
  ·exact⟨_,rfl,by unfold Ga;repeat' (first|exact True.intro|exact rfl|(refine And.intro ?_ ?_)|((conv=>whnf);omega)|((conv=>whnf);simp only[List.length_append,List.length_cons,List.length_nil];done)|((conv=>whnf);simp only[List.length_append,List.length_cons,List.length_nil];omega)),rfl⟩
  ·exact⟨_,rfl,by unfold Ga;rw[h1,h2];repeat' (first|exact True.intro|exact rfl|(refine And.intro ?_ ?_)|((conv=>whnf);omega)|((conv=>whnf);simp only[List.length_append,List.length_cons,List.length_nil];done)|((conv=>whnf);simp only[List.length_append,List.length_cons,List.length_nil];omega)),rfl⟩)
structure DN (p:an) (q:aE) (s:aC) (r:Rn):Prop where
 prp:aU p q=0
 thr:c9 p
 rdy:dk p s r.start
 run:bN p s r.start r.steps
 ini:um p q s r.start
 len:r.steps.length<=48
 sta:r.start.states.length<=8
 sch:eM (ar p.rules).length (pD p s r).1
 seg:(pD p s r).2.length=r.steps.length+1
theorem Ev {p:an} {q:aE} {s:aC} {r:Rn} (h:lR p q s=0) (hr:DM p q s r):DN p q s r:=by
 obtain⟨hp,ht,hz,_⟩:=vN h
 have hv:=(bl hp).vld
 have rd:=vG (nl hz hr.1)
 have hS:=lV p s (cE p r.start r.steps) [] []
 have hl:=r7 ht rd hr.2.1
 have hp0:=gT rd
 have hst:=rd.vc.len
 have hsz:=rd.sz
 have hm:io p s<=8:=by unfold io;split<;>omega
 refine⟨hp,ht,rd,hr.2.1,hr.2.2,by omega,by omega,F8 (hS.nod (by simp)) (hS.rng (fun x hx=>by cases hx)),?_⟩
 have:=hS.sgl
 rw[fm] at this
 unfold pD
 simpa using this
theorem BJ (p:an) (q:aE) (sch:List Int) (s:aC):(((List.replicate (bI p q sch).length (0:Int)).set 0 s.n).set 1 s.t).set 2 s.f=(bI p q sch).map (BG s):=by
 obtain⟨rest,hr⟩:∃rest,bI p q sch=⟨0,0,0⟩::⟨1,0,0⟩::⟨2,0,0⟩::rest:=⟨vf p q++(List.range (sch.length+1)).flatMap fun j=>bE p sch j p.rules.length,by
  unfold bI
  rw[List.append_assoc]
  rfl⟩
 have hk:∀v∈rest,BG s v=0:=fun v hv=>by
  have hn:3<=v.kind:=by
   have e:rest=vf p q++(List.range (sch.length+1)).flatMap fun j=>bE p sch j p.rules.length:=by
    have h2:bI p q sch=⟨0,0,0⟩::⟨1,0,0⟩::⟨2,0,0⟩::(vf p q++(List.range (sch.length+1)).flatMap fun j=>bE p sch j p.rules.length):=by
     unfold bI
     rw[List.append_assoc]
     rfl
    rw[hr] at h2
    injection h2 with _ h2
    injection h2 with _ h2
    injection h2 with _ h2
   rw[e] at hv
   rcases List.mem_append.1 hv with hv|hv
   ·unfold vf at hv
    rcases List.mem_append.1 hv with hv|hv
    ·obtain⟨x,_,rfl⟩:=List.mem_map.1 hv;dsimp only;omega
    ·split at hv
     ·obtain⟨x,_,rfl⟩:=List.mem_map.1 hv;dsimp only;omega
     ·cases hv
   ·obtain⟨j,_,hv⟩:=List.mem_flatMap.1 hv
    obtain⟨r,_,hv⟩:=gm hv
    have:=(gR hv).1
    omega
  unfold BG
  rw[if_neg (fun e=>by subst e;dsimp only at hn;omega),if_neg (fun e=>by subst e;dsimp only at hn;omega),if_neg (fun e=>by subst e;dsimp only at hn;omega)]
 rw[hr,List.map_cons,List.map_cons,List.map_cons,List.length_cons,List.length_cons,List.length_cons,List.replicate_succ,List.replicate_succ,List.replicate_succ]
 have hm:rest.map (BG s)=List.replicate rest.length 0:=List.map_eq_replicate_iff.2 hk
 rw[hm]
 rfl
end Go.Proofs.YtekmminpfhacpaaGreatDoor
