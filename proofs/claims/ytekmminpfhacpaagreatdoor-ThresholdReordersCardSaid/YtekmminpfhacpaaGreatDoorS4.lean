import Derived.Test.YtekmminpfhacpaaGreatDoorS2
import Derived.Test.YtekmminpfhacpaaGreatDoorMD
import Derived.Test.YtekmminpfhacpaaGreatDoorPA
import Derived.Test.YtekmminpfhacpaaGreatDoorSoD
import Derived.Test.YtekmminpfhacpaaGreatDoorRuD
import Derived.Test.YtekmminpfhacpaaGreatDoorFhH
import Derived.Test.YtekmminpfhacpaaGreatDoorY1
import Derived.Test.YtekmminpfhacpaaGreatDoorPD
import Derived.Test.YtekmminpfhacpaaGreatDoorFS
import Derived.Test.YtekmminpfhacpaaGreatDoorHA
set_option linter.unusedVariables false
set_option linter.unusedSimpArgs false
namespace Go.Proofs.YtekmminpfhacpaaGreatDoor
set_option maxRecDepth 100000
set_option maxHeartbeats 4000000
theorem tQ {a b:List Int} (hl:a.length=b.length) (h:∀i,i<a.length->a.getD i 0=b.getD i 0):a=b:=by
 refine List.ext_getElem hl fun i h1 h2=>?_
 have:=h i h1
 rwa [av 0 h1,av 0 h2] at this
theorem mU {K:Int} (hK:0<=K) (y:Int) {l:List Int} (hl:K.toNat<=l.length):((l.take K.toNat).count y:Int)=mc K true y l l.length:=by
 rw[od hK y l.length (Nat.le_refl _),Nat.min_eq_right hl]
theorem sm {K:Int} (hK:0<=K) (y:Int) {l:List Int} (hl:K.toNat<=l.length):((l.drop K.toNat).count y:Int)=mc K false y l l.length:=by
 have a:=mU hK y hl
 have b:=vJ K y l l.length (Nat.le_refl _)
 rw[List.take_length] at b
 have c:l.count y=(l.take K.toNat).count y+(l.drop K.toNat).count y:=by rw[<-List.count_append,List.take_append_drop]
 omega
theorem Bw {a b:List Int} (h:a.Perm b):fO a=fO b:=Jm ((jN a).trans h) (Bv a)
section
variable {p:an} {q:aG} {s:aJ} {r1 r2:Rn} {sch seg1 seg2:List Int}
theorem GW (h1:dy p q s r1 sch seg1) (h2:dy p q s r2 sch seg2) (he:∀v∈ak p q sch,fx s r1 seg1 v=fx s r2 seg2 v):iM p (dl p r1 r1.steps.length)=iM p (dl p r2 r2.steps.length):=by
 obtain⟨c0,c1,c2,_⟩:=lK h1
 obtain⟨d0,d1,d2,_⟩:=lK h2
 obtain⟨e1,e2⟩:=mR h1
 obtain⟨f1,f2⟩:=mR h2
 have v1:=(mQ h1 (Nat.le_refl _)).vc
 have v2:=(mQ h2 (Nat.le_refl _)).vc
 have hoc:∀(b:Bool) (y:Int),mc r1.start.correct b y (dl p r1 r1.steps.length).states r1.start.states.length=mc r2.start.correct b y (dl p r2 r2.steps.length).states r2.start.states.length:=fun b y=>by
  cases b
  ·rw[<-jk h1 (b:=false) (.inr ⟨rfl,rfl,rfl⟩) (Nat.le_refl _) (dj h1),<-jk h2 (b:=false) (.inr ⟨rfl,rfl,rfl⟩) (Nat.le_refl _) (dj h2)]
   exact mT he
  ·rw[<-jk h1 (b:=true) (.inl ⟨rfl,rfl,rfl⟩) (Nat.le_refl _) (dj h1),<-jk h2 (b:=true) (.inl ⟨rfl,rfl,rfl⟩) (Nat.le_refl _) (dj h2)]
   exact mT he
 have hcn:∀(b:Bool) (m:Nat),(CT b (dl p r1 r1.steps.length)).getD m 0=(CT b (dl p r2 r2.steps.length)).getD m 0:=fun b m=>by
  cases b
  ·have a1:=gT h1 (fire:=6) (msg:=(m:Int)) (b:=false) (.inr ⟨rfl,rfl⟩) (by omega) (Nat.le_refl _) (dj h1)
   have a2:=gT h2 (fire:=6) (msg:=(m:Int)) (b:=false) (.inr ⟨rfl,rfl⟩) (by omega) (Nat.le_refl _) (dj h2)
   rw[tN] at a1 a2
   rw[<-a1,<-a2]
   exact mT he
  ·have a1:=gT h1 (fire:=5) (msg:=(m:Int)) (b:=true) (.inl ⟨rfl,rfl⟩) (by omega) (Nat.le_refl _) (dj h1)
   have a2:=gT h2 (fire:=5) (msg:=(m:Int)) (b:=true) (.inl ⟨rfl,rfl⟩) (by omega) (Nat.le_refl _) (dj h2)
   rw[tN] at a1 a2
   rw[<-a1,<-a2]
   exact mT he
 rw[<-e2,<-f2,<-e1,<-f1] at hoc
 have ht:=h1.thr.1
 have hv:=h1.thr.2.1
 have hcor:(dl p r1 r1.steps.length).correct=(dl p r2 r2.steps.length).correct:=by rw[v1.cor,v2.cor]
 generalize dl p r1 r1.steps.length=a at*
 generalize dl p r2 r2.steps.length=b at*
 have g1:a.shape=b.shape:=by
  have x1:=v1.non (by omega)
  have x2:=v2.non (by omega)
  rw[List.length_eq_zero_iff.1 x1,List.length_eq_zero_iff.1 x2]
 have g2:a.value=b.value:=by
  have x1:=v1.va0
  have x2:=v2.va0
  have x3:=v1.va1
  have x4:=v2.va1
  omega
 have g3:a.sent=b.sent:=tQ (by rw[v1.snl,v2.snl]) fun i _=>hcn true i
 have g4:a.faulty=b.faulty:=tQ (by rw[v1.fal,v2.fal]) fun i _=>hcn false i
 have k1:0<=a.correct:=by omega
 have k2:a.correct.toNat<=a.states.length:=by omega
 have k3:b.correct.toNat<=b.states.length:=by omega
 have g5:fO (a.states.take a.correct.toNat)=fO (b.states.take b.correct.toNat):=Bw (List.perm_iff_count.2 fun y=>by
  have x1:=mU k1 y k2
  have x2:=mU (K:=b.correct) (by omega) y k3
  have x3:=hoc true y
  omega)
 have g6:fO (a.states.drop a.correct.toNat)=fO (b.states.drop b.correct.toNat):=Bw (List.perm_iff_count.2 fun y=>by
  have x1:=sm k1 y k2
  have x2:=sm (K:=b.correct) (by omega) y k3
  have x3:=hoc false y
  omega)
 rw[sk a ht,sk b ht,g1,g2,g3,g4,g5,g6,hcor]
end
section
variable {p:an} {q:aG} {s:aJ} {r:Rn}
noncomputable abbrev pU (p:an) (q:aG) (s:aJ) (r:Rn):List Int:=(ak p q (d8 p s r).1).map (fx s r (d8 p s r).2)
theorem Ny {vars:List Vb} {f:Co} {v:Vb} (h:v∈vars):iC vars (vars.map f) v=f v:=by
 unfold iC
 have hi:=List.idxOf_lt_length_of_mem h
 rw[av 0 (by rw[List.length_map];exact hi),List.getElem_map,List.getElem_idxOf]
theorem vO (v:Vb) (hv:v∈ak p q (d8 p s r).1):aX p q (d8 p s r).1 (pU p q s r) v=fx s r (d8 p s r).2 v:=Ny hv
theorem GX (p:an) (q:aG) (s:aJ) (r:Rn):aX p q (d8 p s r).1 (pU p q s r) ⟨0,0,0⟩=s.n/\aX p q (d8 p s r).1 (pU p q s r) ⟨1,0,0⟩=s.t/\aX p q (d8 p s r).1 (pU p q s r) ⟨2,0,0⟩=s.f:=by
 refine⟨?_,?_,?_⟩
 ·rw[vO _ (by unfold ak;simp),Nu]
 ·rw[vO _ (by unfold ak;simp),Nv]
 ·rw[vO _ (by unfold ak;simp),I8]
theorem vP (p:an) (q:aG) (s:aJ) (r:Rn):kz p q (d8 p s r).1 (pU p q s r)=s:=by
 obtain⟨a,b,c⟩:=GX p q s r
 show ew _=s
 unfold ew
 rw[a,b,c]
theorem zL (hc:cb p q=0) (hk:r9 p q s r):kP p q (d8 p s r).1 (pU p q s r) (-1):=by
 refine Bo hc hk.sch (oc hk.sg hk.gu fun h=>absurd h (by decide)) ?_
 have hn:=bu hk.prp (d8 p s r).1
 have h0:0<(ak p q (d8 p s r).1).length:=by unfold ak;simp only[List.length_append,List.length_cons];omega
 have e:=pH hn (pU p q s r) h0
 have e2:(ak p q (d8 p s r).1).getD 0 dU=⟨0,0,0⟩:=rfl
 rw[e2] at e
 have e3:=(GX p q s r).1
 have hz:=hk.rdy.sz
 have e4:(pU p q s r).getD 0 0=s.n:=e.symm.trans e3
 rw[e4]
 omega
theorem Jp (hc:cb p q=0) (hk:r9 p q s r):pk p q (d8 p s r).1 (pU p q s r) (-1)=0:=by
 have h:=zL hc hk
 have hc0:0<oX p q:=by
  unfold oX
  split
  ·exact uF _ _
  ·omega
 have hn:=bu hk.prp (d8 p s r).1
 have h0:0<(ak p q (d8 p s r).1).length:=by unfold ak;simp only[List.length_append,List.length_cons];omega
 have e:=pH hn (pU p q s r) h0
 have e2:(ak p q (d8 p s r).1).getD 0 dU=⟨0,0,0⟩:=rfl
 rw[e2] at e
 have e4:(pU p q s r).getD 0 0=s.n:=e.symm.trans (GX p q s r).1
 have hz:=hk.rdy.sz
 unfold pk
 rw[if_neg (fun y=>y hc),if_neg (by
  rintro(hh|hh|hh)
  ·exact hh hk.sch
  ·omega
  ·omega),if_neg (fun y=>y (oc hk.sg hk.gu fun h=>absurd h (by decide))),if_neg (by omega)]
 exact vM h
theorem GY (hc:cb p q=0) (hk:r9 p q s r):dy p q s (vT p q (d8 p s r).1 (pU p q s r)) (d8 p s r).1 (Mk p q (d8 p s r).1 (pU p q s r)):=by
 have h:=zL hc hk
 have:=sj h (vM h)
 rwa [vP p q s r] at this
theorem Jq (hc:cb p q=0) (hk:r9 p q s r):iM p (dl p r r.steps.length)=iM p (dl p (vT p q (d8 p s r).1 (pU p q s r)) (vT p q (d8 p s r).1 (pU p q s r)).steps.length):=by
 have h:=zL hc hk
 refine GW hk.sg (GY hc hk) fun v hv=>?_
 have e:=zE h (vM h) v hv
 rw[vP p q s r] at e
 rw[e,vO v hv]
end
end Go.Proofs.YtekmminpfhacpaaGreatDoor
namespace Go.Proofs.YtekmminpfhacpaaGreatDoor
set_option maxRecDepth 100000
set_option maxHeartbeats 16000000
theorem J4 (p:an) (s:aJ) (r:Rn) (hR:ab Tryz.prog 32 [.agg (aR p), .agg (cq s), .agg (mA r)] (fun u=>u= .tup [.sl aU aW (cY p r.start r.steps), .int .i64 0])) (hl:r.steps.length<=9000):
  ab Tryz.prog 20 [.agg (aR p), .agg (cq s), .agg (mA r)] (fun u=>u= .tup [.agg (aW (dl p r r.steps.length)), .bool true]):=by
 have hlen:=fM p r.start r.steps
 show ab _ _ _ (fun u=>u= .tup [.agg (aW ((cY p r.start r.steps).getD r.steps.length aU)), .bool true])
 generalize cY p r.start r.steps=A at*
 refine ab.intro ae ag Tryz.func20 rfl (by decide) ?_;(conv=>whnf)
 refine al rfl ?_
 conv=>whnf
 refine al rfl ?_
 conv=>whnf
 refine al rfl ?_
 conv=>whnf
 (refine oP (hR) ?_;conv=>whnf)
 refine fP (by decide) ?_
 conv=>whnf
 refine fI ?_
 conv=>whnf
 refine aI ?_
 conv=>whnf
 refine nI ?_
 rw[show((A.length:Int)-1).toNat=r.steps.length by omega]
 conv=>whnf
 exact⟨rfl,rfl⟩
theorem GZ {p:an} {q:aG} {s:aJ} {r:Rn} {sch seg:List Int} (hk:dy p q s r sch seg):ab Tryz.prog 34 [.agg (aR p), .agg (aW (dl p r r.steps.length))] (fun u=>u= .tup [.agg (aW (iM p (dl p r r.steps.length))), .int .i64 0]):=by
 have hr:=mQ hk (Nat.le_refl _)
 have h:=zK p (dl p r r.steps.length) hr.big hr.wide
 have e:Jo p (dl p r r.steps.length)=0:=zJ.2 ⟨hr.val,hr.plain⟩
 unfold Ml at h
 rw[e,if_pos rfl] at h
 exact h
theorem xX (p:an) (q:aG) (hp:iO p) (hq:pN q) (s:aJ) (r:Rn) (hc:AN r.start) (hl:r.steps.length<=140737488355328):
  ab Tryz.prog 8 [.agg (AG p q), .agg (cq s), .agg (mA r)] (fun u=>u= .bool true):=by
 have hs:=FU
 have hF:=xI p q s r hp hq hc hl
 refine ab.intro ae ag Tryz.func8 rfl (by decide) ?_;(conv=>whnf)
 refine al rfl ?_
 conv=>whnf
 refine al rfl ?_
 conv=>whnf
 refine al rfl ?_
 conv=>whnf
 apply f7
 case k=>
  intro o1 o2 o3 o4 o5 o6
  refine AH [0,1,2,3] (by decide+kernel) ?_
  conv=>whnf
  repeat' first
   |exact True.intro
   |(refine And.intro ?_ ?_<;>conv=>whnf)
   |with_reducible exact o1
   |with_reducible exact o2
   |with_reducible exact o3
   |with_reducible exact o4
   |with_reducible exact o5
   |with_reducible exact o6
   |fail
 all_goals try first
  |exact True.intro
  |exact True
 all_goals
  rcases tP p q s r with ⟨e,e0,eA⟩|⟨hz,hk,eA⟩
  ·rw[eA] at hF
   unfold I6 at hF
   dsimp only at hF
   (refine oP (hF) ?_;conv=>whnf)
   refine cC e0 ?_
   conv=>whnf
   (refine oP (hs) ?_;conv=>whnf)
   exact⟨rfl,rfl⟩
  have hchk:=vr hz
  have hsl:=c5 hk.sch
  have htl:=(aL (aF hk.prp).vld).thr
  have hvl:=eK hk.prp hk.sch
  have hxl:(pU p q s r).length=(ak p q (d8 p s r).1).length:=List.length_map _
  have hC:=pK p q hp hq (d8 p s r).1 (by omega) (-1) (pU p q s r) (by omega)
  rw[zu (Jp hchk hk)] at hC
  rw[show ew (iC (ak p q (d8 p s r).1) (pU p q s r))=s from vP p q s r] at hC
  have hk2:=GY hchk hk
  have he:=Jq hchk hk
  have hw1:=bE hk.rdy.wide
  have hw2:=bE hk2.rdy.wide
  have hl1:=hk.len
  have hl2:=hk2.len
  have hR1:=qm p s r hp hk.rdy.val hk.thr hc hl
  have hR2:=qm p s (vT p q (d8 p s r).1 (pU p q s r)) hp hk.rdy.val hk.thr (by unfold AN;omega) (by omega)
  rw[zF hk.sg] at hR1
  rw[zF hk2] at hR2
  have hL1:=J4 p s r hR1 (by omega)
  have hL2:=J4 p s _ hR2 (by omega)
  have hC1:=GZ hk.sg
  have hC2:=GZ hk2
  rw[<-he] at hC2
  have hS:=F6 (iM p (dl p r r.steps.length)) (by rw[C4];exact(mQ hk.sg (Nat.le_refl _)).wide)
  rw[eA] at hF
  unfold I6 at hF
  dsimp only at hF
  clear hR1 hR2
  obtain⟨c2,ys,e2⟩:∃c2 ys,vT p q (d8 p s r).1 (pU p q s r)=⟨c2,ys⟩:=⟨_,_,rfl⟩
  have e3:bq p q (iC (ak p q (d8 p s r).1) (pU p q s r))=c2:=congrArg Rn.start e2
  have e4:(mj p q (d8 p s r).1 (pU p q s r)).2.1=ys:=congrArg Rn.steps e2
  rw[e3,e4] at hC
  rw[e2] at hL2 hC2
  unfold mA at hL1 hL2
  dsimp only at hL1 hL2 hC2
  clear he hk2 e2 e3 e4 hw2 hl2
  change ab _ _ [_,_, .sl 0 ao (d8 p s r).1,_, .sl 0 ao (pU p q s r)] _ at hC
  change ab _ _ _ (fun u=>u= .tup [.sl 0 ao (d8 p s r).1, .sl 0 ao (pU p q s r), .int .i64 0]) at hF
  generalize pU p q s r=x at*
  generalize (d8 p s r).1=sch at*
  generalize dl p r r.steps.length=a at*
  generalize iM p a=a' at*
  (refine oP (hF) ?_;conv=>whnf)
  refine fP (by decide) ?_
  conv=>whnf
  (refine oP (hC) ?_;conv=>whnf)
  refine fP (by decide) ?_
  conv=>whnf
  refine fP (fun h=>h rfl) ?_
  conv=>whnf
  (refine oP (hL1) ?_;conv=>whnf)
  (refine oP (hL2) ?_;conv=>whnf)
  (refine oP (hC1) ?_;conv=>whnf)
  (refine oP (hC2) ?_;conv=>whnf)
  refine cC rfl ?_
  conv=>whnf
  refine cC rfl ?_
  conv=>whnf
  (refine oP (hS) ?_;conv=>whnf)
  (refine oP (hs) ?_;conv=>whnf)
  exact⟨rfl,rfl⟩
end Go.Proofs.YtekmminpfhacpaaGreatDoor
