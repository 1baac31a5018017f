import Derived.Test.YtekmminpfhacpaaGreatDoorPA
import Derived.Test.YtekmminpfhacpaaGreatDoorFL
set_option linter.unusedVariables false
set_option linter.unusedSimpArgs false
namespace Go.Proofs.YtekmminpfhacpaaGreatDoor
section
set_option maxRecDepth 100000
set_option maxHeartbeats 4000000
theorem pk:∀(gs sch:List Int),∃t,cD sch gs=sch++t/\∀x∈t,x∈gs
 |[],sch=>⟨[],by simp[cD],by simp⟩
 |g::gs,sch=>by
  unfold cD
  split
  ·obtain⟨t,h1,h2⟩:=pk gs sch
   exact⟨t,h1,fun x hx=>List.mem_cons_of_mem _ (h2 x hx)⟩
  ·obtain⟨t,h1,h2⟩:=pk gs (sch++[g])
   refine⟨g::t,by rw[h1];simp,fun x hx=>?_⟩
   rcases List.mem_cons.1 hx with rfl|hx
   ·exact List.mem_cons_self
   ·exact List.mem_cons_of_mem _ (h2 x hx)
theorem yu {a b:List Int} {j:Nat} (h:j<a.length):(a++b).getD j 0=a.getD j 0:=by
 rw[gD,List.getElem?_append_left h,<-gD]
theorem pl {a b:List Int} {j:Nat} (h:a.length<=j):(a++b).getD j 0=b.getD (j-a.length) 0:=by
 rw[gD,List.getElem?_append_right h,<-gD]
structure It (p:an) (s:aC) (l:List ay) (sch seg:List Int) (R:List Int×List Int):Prop where
 low:∀k,k<l.length->(sch.length:Int)<=R.2.getD (seg.length+k) 0
 mono:∀k,k+1<l.length->R.2.getD (seg.length+k) 0<=R.2.getD (seg.length+(k+1)) 0
 last:0<l.length->R.2.getD (seg.length+(l.length-1)) 0=R.1.length
 src:∀k,k<l.length->∀j:Nat,sch.length<=j->(j:Int)<R.2.getD (seg.length+k) 0->∃k',k'<=k/\R.1.getD j 0∈cq p s (l.getD k' aX) (ar p.rules).length
theorem w4 (p:an) (s:aC):∀(l:List ay) (sch seg:List Int),It p s l sch seg (j' p s l sch seg)
 |[],sch,seg=>⟨fun k hk=>by simp at hk,fun k hk=>by simp at hk,fun h=>by simp at h,fun k hk=>by simp at hk⟩
 |c::l,sch,seg=>by
  obtain⟨t0,h0,h00⟩:=pk (cq p s c (ar p.rules).length) sch
  have hF:=lV p s l (cD sch (cq p s c (ar p.rules).length)) (seg++[((cD sch (cq p s c (ar p.rules).length)).length:Int)])
  obtain⟨g1,g2,g3,g4⟩:=w4 p s l (cD sch (cq p s c (ar p.rules).length)) (seg++[((cD sch (cq p s c (ar p.rules).length)).length:Int)])
  have hl:(seg++[((cD sch (cq p s c (ar p.rules).length)).length:Int)]).length=seg.length+1:=by simp
  have e:j' p s (c::l) sch seg=j' p s l (cD sch (cq p s c (ar p.rules).length)) (seg++[((cD sch (cq p s c (ar p.rules).length)).length:Int)]):=rfl
  have h2:=hF.old seg.length (by omega)
  rw[pl (Nat.le_refl _),Nat.sub_self] at h2
  obtain⟨t,h1⟩:=hF.pre
  rw[hl] at g1 g2 g3 g4
  rw[<-e] at h1 h2 g1 g2 g3 g4
  generalize j' p s (c::l) sch seg=R at*
  have hz:R.2.getD seg.length 0=((cD sch (cq p s c (ar p.rules).length)).length:Int):=h2
  have hlen:(cD sch (cq p s c (ar p.rules).length)).length=sch.length+t0.length:=by rw[h0,List.length_append]
  have hsh:∀k,seg.length+(k+1)=seg.length+1+k:=fun k=>by omega
  refine⟨fun k hk=>?_,fun k hk=>?_,fun _=>?_,fun k hk j hj1 hj2=>?_⟩
  ·cases k with
   |zero=>rw[Nat.add_zero,hz];omega
   |succ k=>
    rw[hsh]
    have:=g1 k (by simpa using hk)
    omega
  ·cases k with
   |zero=>
    rw[Nat.add_zero,hz,hsh 0]
    exact g1 0 (by simpa using hk)
   |succ k=>
    rw[hsh,hsh (k+1)]
    have:=g2 k (by simpa using hk)
    rw[show seg.length+1+(k+1)=seg.length+1+(k+1) from rfl]
    exact this
  ·by_cases el:l.length=0
   ·have:l=[]:=List.length_eq_zero_iff.1 el
    subst this
    rw[show(c::([]:List ay)).length-1=0 from rfl,Nat.add_zero,hz]
    have:R=(cD sch (cq p s c (ar p.rules).length),seg++[((cD sch (cq p s c (ar p.rules).length)).length:Int)]):=e
    rw[this]
   ·have:=g3 (by omega)
    rw[List.length_cons,show seg.length+(l.length+1-1)=seg.length+1+(l.length-1) by omega]
    exact this
  ·have hold:∀j:Nat,sch.length<=j->(j:Int)<((cD sch (cq p s c (ar p.rules).length)).length:Int)->R.1.getD j 0∈cq p s c (ar p.rules).length:=by
    intro j hj1 hj2
    rw[h1,yu (by omega),h0,pl hj1]
    exact h00 _ (bi 0 (by omega))
   cases k with
   |zero=>
    rw[Nat.add_zero,hz] at hj2
    exact⟨0,Nat.le_refl _,hold j hj1 hj2⟩
   |succ k=>
    by_cases hj3:(j:Int)<((cD sch (cq p s c (ar p.rules).length)).length:Int)
    ·exact⟨0,Nat.zero_le _,hold j hj1 hj3⟩
    ·rw[hsh] at hj2
     obtain⟨k',a,b⟩:=g4 k (by simpa using hk) j (by omega) hj2
     exact⟨k'+1,by omega,b⟩
structure Iu (p:an) (q:aE) (s:aC) (r:Rn) (sch seg:List Int):Prop where
 prp:aU p q=0
 thr:c9 p
 rdy:dk p s r.start
 run:bN p s r.start r.steps
 ini:um p q s r.start
 len:r.steps.length<=48
 sta:r.start.states.length<=8
 scb:eM (ar p.rules).length sch
 var:∀k,k<r.steps.length->qG r.start r.steps seg k∈bI p q sch
 rng:∀k,k<r.steps.length->0<=seg.getD k 0/\seg.getD k 0<=sch.length
 mon:∀k,k+1<r.steps.length->seg.getD k 0<=seg.getD (k+1) 0
theorem DN.sg {p:an} {q:aE} {s:aC} {r:Rn} (h:DN p q s r):Iu p q s r (pD p s r).1 (pD p s r).2:=by
 refine⟨h.prp,h.thr,h.rdy,h.run,h.ini,h.len,h.sta,h.sch,fun k hk=>BI h.thr h.rdy h.run hk,fun k hk=>?_,fun k hk=>?_⟩
 ·obtain⟨n,e1,e2,_⟩:=(lV p s (cE p r.start r.steps) [] []).new k (by rw[fm];omega)
  rw[List.length_nil,Nat.zero_add] at e1
  unfold pD
  rw[e1]
  exact⟨by omega,by omega⟩
 ·have:=(w4 p s (cE p r.start r.steps) [] []).mono k (by rw[fm];omega)
  rw[List.length_nil,Nat.zero_add,Nat.zero_add] at this
  exact this
section
variable {p:an} {q:aE} {s:aC} {r:Rn} {sch seg:List Int}
noncomputable abbrev IQ (s:aC) (r:Rn) (seg:List Int):Co:=yr s r.start r.steps seg r.start.states.length r.steps.length
end
end
section
set_option maxRecDepth 100000
set_option maxHeartbeats 4000000
section
variable {p:an} {q:aE} {s:aC} {r:Rn} {sch seg:List Int}
end
end
section
set_option maxRecDepth 100000
set_option maxHeartbeats 4000000
section
variable {p:an} {q:aE} {s:aC} {r:Rn} {sch seg:List Int}
end
end
end Go.Proofs.YtekmminpfhacpaaGreatDoor
