import Derived.Test.YtnjggjhkfncnlaaGreatDoorFuA
set_option linter.unusedVariables false
set_option linter.unusedSimpArgs false
namespace Go.Proofs.YtnjggjhkfncnlaaGreatDoor
set_option maxRecDepth 100000
set_option maxHeartbeats 8000000
structure Aj where
 src:List Int
 mult:List Int
 div:Int
structure D6 where
 lines:List Aj
 var:Int
 at_:Int
 left:Int
 right:Int
def Jf:Aj:=⟨[],[],0⟩
def mN:D6:=⟨[],0,0,0,0⟩
def Jg (vars:Nat) (rows:List cK) (d:Aj):Nat->List Int
 |0=>List.replicate vars 0
 |i+1=>
  if d.src.getD i 0<0 then(Jg vars rows d i).set (-1-d.src.getD i 0).toNat ((Jg vars rows d i).getD (-1-d.src.getD i 0).toNat 0+d.mult.getD i 0)
  else(List.range vars).map fun j=>(Jg vars rows d i).getD j 0+d.mult.getD i 0*(rows.getD (d.src.getD i 0).toNat bz).coef.getD j 0
def Kp (rows:List cK) (d:Aj):Nat->Int
 |0=>0
 |i+1=>if d.src.getD i 0<0 then Kp rows d i else Kp rows d i+d.mult.getD i 0*(rows.getD (d.src.getD i 0).toNat bz).const
def Jh (vars n:Nat) (d:Aj) (i:Nat):Prop:=(-(vars:Int)<=d.src.getD i 0/\d.src.getD i 0<n)/\1<=d.mult.getD i 0/\d.mult.getD i 0<=65536
instance (vars n:Nat) (d:Aj) (i:Nat):Decidable (Jh vars n d i):=inferInstanceAs (Decidable (_/\_))
def Ji (d:Aj):Prop:=d.src.length=d.mult.length/\(1<=d.src.length/\d.src.length<=64)/\1<=d.div/\d.div<=68719476736
instance (d:Aj):Decidable (Ji d):=inferInstanceAs (Decidable (_/\_))
def K4 (a d:Int):Int:=if a.tmod d<0 then a.tdiv d-1 else a.tdiv d
def KM (vars:Nat) (rows:List cK) (d:Aj):cK:=⟨(Jg vars rows d d.src.length).map (·.tdiv d.div),K4 (Kp rows d d.src.length) d.div⟩
def KN (vars:Nat) (rows:List cK) (d:Aj):Prop:=
 Ji d/\(∀i,i<d.src.length->Jh vars rows.length d i)/\(∀j,j<vars->((Jg vars rows d d.src.length).getD j 0).tmod d.div=0)/\ou (KM vars rows d)
instance (vars:Nat) (rows:List cK) (d:Aj):Decidable (KN vars rows d):=inferInstanceAs (Decidable (_/\_))
def Jj (vars n i:Nat) (x:D6):Prop:=x.var=-1\/((0<=x.var/\x.var<vars)/\(0<=x.at_/\x.at_<=1048576)/\((i:Int)<x.left/\x.left<n)/\((i:Int)<x.right/\x.right<n))
instance (vars n i:Nat) (x:D6):Decidable (Jj vars n i x):=inferInstanceAs (Decidable (_\/_))
def Jk (nodes:List D6) (c:Int):Nat->Int
 |0=>0
 |k+1=>Jk nodes c k+(if(nodes.getD k mN).var=-1 then 0 else(if(nodes.getD k mN).left=c then 1 else 0)+(if(nodes.getD k mN).right=c then 1 else 0))
def Jl (nodes:List D6):Nat->Nat
 |0=>0
 |k+1=>Jl nodes k+(nodes.getD k mN).lines.length
def Jm (vars:Nat) (nodes:List D6):Prop:=
 (1<=nodes.length/\nodes.length<=400)/\(∀i,i<nodes.length->Jj vars nodes.length i (nodes.getD i mN))/\(∀i,i<nodes.length->0<i->Jk nodes i nodes.length=1)/\Jl nodes nodes.length<=400
instance (vars:Nat) (nodes:List D6):Decidable (Jm vars nodes):=inferInstanceAs (Decidable (_/\_))
def Jn (r:cK):Prop:=(∀j,j<r.coef.length->r.coef.getD j 0<=0)/\r.const<0
instance (r:cK):Decidable (Jn r):=inferInstanceAs (Decidable (_/\_))
def Gf (l:List cK):Prop:=∃j,j<l.length/\Jn (l.getD j bz)
instance (l:List cK):Decidable (Gf l):=inferInstanceAs (Decidable (∃j,j<l.length/\_))
def KO (vars:Nat) (rows:List cK) (l:List Aj):Nat->Option (List cK)
 |0=>some rows
 |k+1=>match KO vars rows l k with
  |none=>none
  |some a=>if KN vars a (l.getD k Jf) then some (a++[KM vars a (l.getD k Jf)]) else none
def Kq (vars:Nat) (v k:Int):cK:=⟨(List.replicate vars 0).set v.toNat (-1),k⟩
def Kr (vars:Nat) (v k:Int):cK:=⟨(List.replicate vars 0).set v.toNat 1,-k⟩
def HG (vars:Nat) (nodes:List D6):Nat->Nat->List cK->Bool
 |0,_,_=>false
 |m+1,i,rows=>match KO vars rows (nodes.getD i mN).lines (nodes.getD i mN).lines.length with
  |none=>false
  |some a=>if(nodes.getD i mN).var=-1 then decide (Gf a)
   else HG vars nodes m (nodes.getD i mN).left.toNat (a++[Kq vars (nodes.getD i mN).var (nodes.getD i mN).at_])&&HG vars nodes m (nodes.getD i mN).right.toNat (a++[Kr vars (nodes.getD i mN).var ((nodes.getD i mN).at_+1)])
def Ks (s:iq) (nodes:List D6):Prop:=iV s=0/\Jm s.vars.toNat nodes/\HG s.vars.toNat nodes nodes.length 0 s.rows=true
instance (s:iq) (nodes:List D6):Decidable (Ks s nodes):=inferInstanceAs (Decidable (_/\_))
structure Kt (vars:Nat) (x:List Int) (rows:List cK):Prop where
 len:x.length=vars
 pos:∀j,0<=x.getD j 0
 sat:∀j,j<rows.length->0<=qc (rows.getD j bz) x
theorem Kt.app {vars:Nat} {x:List Int} {rows:List cK} {r:cK} (h:Kt vars x rows) (hr:0<=qc r x):Kt vars x (rows++[r]):=by
 refine⟨h.len,h.pos,fun j hj=>?_⟩
 rw[List.length_append] at hj
 by_cases e:j<rows.length
 ·rw[gD,List.getElem?_append_left e,<-gD];exact h.sat j e
 ·have:j=rows.length:=by simp only[List.length_cons,List.length_nil] at hj;omega
  subst this
  rw[gD,List.getElem?_append_right (Nat.le_refl _),Nat.sub_self]
  exact hr
set_option maxHeartbeats 16000000
def Jo (s:iq):Prop:=s.rows.length<=140737488355328/\∀j,j<s.rows.length->(s.rows.getD j bz).coef.length<=140737488355328
theorem r3 {s:iq} (h:iV s=0):Jo s:=by
 obtain⟨h1,h2,h3,_⟩:=te h
 exact⟨by omega,fun j hj=>by have:=h2 j hj;omega⟩
theorem tx (n:Int):ab Tryz.prog 213 [.int .i64 n] (fun u=>u= .bool (decide (nD n))):=by
 refine ab.intro ac ag Tryz.func213 rfl (by decide) ?_;(conv=>whnf)
 refine ah ?_ ?_<;>(intro h;conv=>whnf)
 ·refine ah ?_ ?_<;>(intro h2;conv=>whnf)
  ·exact⟨az ⟨h,h2⟩,rfl⟩
  ·exact⟨aq (fun hh=>h2 hh.2),rfl⟩
 ·exact⟨aq (fun hh=>h hh.1),rfl⟩
theorem Jp (r:cK) (hl:r.coef.length<=140737488355328):ab Tryz.prog 164 [.agg (bE r)] (fun u=>u= .bool (decide (ou r))):=by
 refine ab.intro ac ag Tryz.func164 rfl (by decide) ?_;(conv=>whnf)
 refine al rfl ?_
 conv=>whnf
 refine aH.loopF ac ag (fun k:Nat=>k<=r.coef.length/\∀j,j<k->nD (r.coef.getD j 0)) (fun k=>[(8, .int .i64 (k:Int))]) (fun _=>[]) (fun k=>r.coef.length-k) 0 ⟨Nat.zero_le _,fun j hj=>absurd hj (Nat.not_lt_zero _)⟩ ?_;conv=>whnf
 refine⟨sI,?_⟩
 rintro k ⟨hk,ha⟩
 conv=>whnf
 refine ah ?_ ?_<;>(intro h1;conv=>whnf)
 ·refine nI ?_
  rw[tN]
  conv=>whnf
  refine dC (tx (r.coef.getD k 0)) (fun _=>?_) (fun _=>?_)<;>(conv=>whnf)
  ·rename_i h2
   repeat' ((first|refine nI ?_|refine aI ?_|refine dz trivial (by omega) ?_|refine dV trivial (by omega) ?_|refine dI ?_|refine dR ?_|refine dP ?_|refine al rfl ?_|refine pI _ rfl ?_|refine ap _ rfl ?_|refine tI ?_|refine fI ?_|refine ah (fun _=>?_) (fun _=>?_))<;>conv=>whnf)
   refine⟨k+1,sI,⟨by omega,fun j hj=>?_⟩,by dsimp only;omega⟩
   by_cases e:j=k
   ·subst e;exact h2
   ·exact ha j (by omega)
  ·rename_i h2
   exact⟨aq (fun h=>h2 (h.1 k (by omega))),rfl⟩
 ·obtain rfl:k=r.coef.length:=by omega
  by_cases h2:nD r.const
  ·have hw:=tx r.const
   rw[decide_eq_true h2] at hw
   (refine oP (hw) ?_;conv=>whnf)
   exact⟨az ⟨ha,h2⟩,rfl⟩
  ·have hw:=tx r.const
   rw[decide_eq_false h2] at hw
   (refine oP (hw) ?_;conv=>whnf)
   exact⟨aq (fun h=>h2 h.2),rfl⟩
theorem C5 {s:iq} (h:s.vars<0\/96<s.vars):iV s=1:=by unfold iV;rw[if_pos h]
theorem C6 {s:iq} (h:¬qU s):iV s=1:=by
 unfold iV
 by_cases h0:s.vars<0\/96<s.vars
 ·rw[if_pos h0]
 ·rw[if_neg h0,if_pos h]
theorem C7 {s:iq} (h0:¬(s.vars<0\/96<s.vars)) (h1:qU s) (h:192<s.rows.length):iV s=4:=by unfold iV;rw[if_neg h0,if_neg (fun x=>x h1),if_pos h]
theorem C8 {s:iq} (h0:¬(s.vars<0\/96<s.vars)) (h1:qU s) (h2:¬zL s.rows):iV s=4:=by
 unfold iV
 rw[if_neg h0,if_neg (fun x=>x h1)]
 by_cases h3:192<s.rows.length
 ·rw[if_pos h3]
 ·rw[if_neg h3,if_pos h2]
theorem z3 (s:iq) (hs:Jo s):ab Tryz.prog 89 [.agg (qb s)] (fun u=>u= .int .i64 (iV s)):=by
 have hs1:=hs.1
 refine ab.intro ac ag Tryz.func89 rfl (by decide) ?_;(conv=>whnf)
 refine al rfl ?_
 conv=>whnf
 refine ah ?_ ?_<;>(intro h;conv=>whnf)
 ·exact⟨n9 (C5 (.inl h)).symm,rfl⟩
 refine ah (fun h'=>?_) (fun h'=>?_)<;>conv=>whnf
 ·exact⟨n9 (C5 (.inr h')).symm,rfl⟩
 have h0:¬(s.vars<0\/96<s.vars):=by omega
 refine aH.loopF ac ag (fun k:Nat=>k<=s.rows.length/\∀j,j<k->((s.rows.getD j bz).coef.length:Int)=s.vars) (fun k=>[(18, .int .i64 (k:Int))]) (fun _=>[]) (fun k=>s.rows.length-k) 0 ⟨Nat.zero_le _,fun j hj=>absurd hj (Nat.not_lt_zero _)⟩ ?_;conv=>whnf
 refine⟨sI,?_⟩
 rintro k ⟨hk,ha⟩
 conv=>whnf
 refine ah ?_ ?_<;>(intro h1;conv=>whnf)
 ·refine nI ?_
  rw[tN]
  conv=>whnf
  have hc:=hs.2 k (by omega)
  refine ah ?_ ?_<;>(intro h2;conv=>whnf)
  ·exact⟨n9 (C6 fun hw=>h2 (hw k (by omega))).symm,rfl⟩
  ·repeat' ((first|refine nI ?_|refine aI ?_|refine dz trivial (by omega) ?_|refine dV trivial (by omega) ?_|refine dI ?_|refine dR ?_|refine dP ?_|refine al rfl ?_|refine pI _ rfl ?_|refine ap _ rfl ?_|refine tI ?_|refine fI ?_|refine ah (fun _=>?_) (fun _=>?_))<;>conv=>whnf)
   refine⟨k+1,sI,⟨by omega,fun j hj=>?_⟩,by dsimp only;omega⟩
   by_cases e:j=k
   ·subst e;exact Classical.not_not.1 h2
   ·exact ha j (by omega)
 ·obtain rfl:k=s.rows.length:=by omega
  have hw:qU s:=ha
  refine ah ?_ ?_<;>(intro h2;conv=>whnf)
  ·exact⟨n9 (C7 h0 hw (by omega)).symm,rfl⟩
  refine aH.loopF ac ag (fun k:Nat=>k<=s.rows.length/\∀j,j<k->ou (s.rows.getD j bz)) (fun k=>[(36, .int .i64 (k:Int))]) (fun _=>[]) (fun k=>s.rows.length-k) 0 ⟨Nat.zero_le _,fun j hj=>absurd hj (Nat.not_lt_zero _)⟩ ?_;conv=>whnf
  refine⟨sI,?_⟩
  rintro k ⟨hk,hb⟩
  conv=>whnf
  refine ah ?_ ?_<;>(intro h1;conv=>whnf)
  ·refine nI ?_
   rw[tN]
   conv=>whnf
   have hc:=hs.2 k (by omega)
   refine dC (Jp (s.rows.getD k bz) hc) (fun _=>?_) (fun _=>?_)<;>(conv=>whnf)
   ·rename_i h3
    repeat' ((first|refine nI ?_|refine aI ?_|refine dz trivial (by omega) ?_|refine dV trivial (by omega) ?_|refine dI ?_|refine dR ?_|refine dP ?_|refine al rfl ?_|refine pI _ rfl ?_|refine ap _ rfl ?_|refine tI ?_|refine fI ?_|refine ah (fun _=>?_) (fun _=>?_))<;>conv=>whnf)
    refine⟨k+1,sI,⟨by omega,fun j hj=>?_⟩,by dsimp only;omega⟩
    by_cases e:j=k
    ·subst e;exact h3
    ·exact hb j (by omega)
   ·rename_i h3
    exact⟨n9 (C8 h0 hw (fun hh=>h3 (hh k (by omega)))).symm,rfl⟩
  ·obtain rfl:k=s.rows.length:=by omega
   exact⟨n9 (tf (by omega) hw (by omega) hb).symm,rfl⟩
theorem vI (x:List Int) (hl:x.length<=140737488355328):ab Tryz.prog 90 [.sl 0 an x] (fun u=>u= .bool (decide (w9 x))):=by
 refine ab.intro ac ag Tryz.func90 rfl (by decide) ?_;(conv=>whnf)
 refine aH.loopF ac ag (fun k:Nat=>k<=x.length/\∀j,j<k->0<=x.getD j 0/\x.getD j 0<=1048576) (fun k=>[(7, .int .i64 (k:Int))]) (fun _=>[]) (fun k=>x.length-k) 0 ⟨Nat.zero_le _,fun j hj=>absurd hj (Nat.not_lt_zero _)⟩ ?_;conv=>whnf
 refine⟨sI,?_⟩
 rintro k ⟨hk,ha⟩
 conv=>whnf
 refine ah ?_ ?_<;>(intro h1;conv=>whnf)
 ·refine nI ?_
  rw[tN]
  conv=>whnf
  refine ah ?_ ?_<;>(intro h2;conv=>whnf)
  ·exact⟨aq (fun h=>by have:=h k (by omega);omega),rfl⟩
  refine ah ?_ ?_<;>(intro h3;conv=>whnf)
  ·exact⟨aq (fun h=>by have:=h k (by omega);omega),rfl⟩
  repeat' ((first|refine nI ?_|refine aI ?_|refine dz trivial (by omega) ?_|refine dV trivial (by omega) ?_|refine dI ?_|refine dR ?_|refine dP ?_|refine al rfl ?_|refine pI _ rfl ?_|refine ap _ rfl ?_|refine tI ?_|refine fI ?_|refine ah (fun _=>?_) (fun _=>?_))<;>conv=>whnf)
  refine⟨k+1,sI,⟨by omega,fun j hj=>?_⟩,by dsimp only;omega⟩
  by_cases e:j=k
  ·subst e;omega
  ·exact ha j (by omega)
 ·obtain rfl:k=x.length:=by omega
  exact⟨az ha,rfl⟩
def z4 (r:cK) (x:List Int):Prop:=r.coef.length=x.length/\x.length<=96/\w9 x
instance (r:cK) (x:List Int):Decidable (z4 r x):=inferInstanceAs (Decidable (_/\_))
def xp (r:cK) (x:List Int):Int×Int:=if z4 r x then(if ou r then(qc r x,0) else(0,4)) else(0,1)
def Jq (a:Int×Int):AV:=.tup [.int .i64 a.1, .int .i64 a.2]
theorem xq {r:cK} {x:List Int} (h:¬z4 r x):xp r x=(0,1):=by unfold xp;rw[if_neg h]
theorem HH {r:cK} {x:List Int} (h:z4 r x) (h2:¬ou r):xp r x=(0,4):=by unfold xp;rw[if_pos h,if_neg h2]
theorem C9 {r:cK} {x:List Int} (h:z4 r x) (h2:ou r):xp r x=(qc r x,0):=by unfold xp;rw[if_pos h,if_pos h2]
theorem HI (r:cK) (x:List Int) (hr:r.coef.length<=140737488355328) (hx:x.length<=140737488355328):
  ab Tryz.prog 91 [.agg (bE r), .sl 0 an x] (fun u=>u=Jq (xp r x)):=by
 refine ab.intro ac ag Tryz.func91 rfl (by decide) ?_;(conv=>whnf)
 refine al rfl ?_
 conv=>whnf
 refine ah ?_ ?_<;>(intro h;conv=>whnf)
 ·exact⟨by rw[xq (fun hh=>h (by have:=hh.1;omega))];rfl,rfl⟩
 refine ah (fun h'=>?_) (fun h'=>?_)<;>conv=>whnf
 ·exact⟨by rw[xq (fun hh=>by have:=hh.2.1;omega)];rfl,rfl⟩
 refine dC (vI x hx) (fun _=>?_) (fun _=>?_)<;>(conv=>whnf)
 case refine_2=>rename_i h2;exact⟨by rw[xq (fun hh=>h2 hh.2.2)];rfl,rfl⟩
 rename_i h2
 have hp:z4 r x:=⟨by omega,by omega,h2⟩
 refine dC (Jp r hr) (fun _=>?_) (fun _=>?_)<;>(conv=>whnf)
 case refine_2=>rename_i h3;exact⟨by rw[HH hp h3];rfl,rfl⟩
 rename_i h3
 refine aH.loopF ac ag (fun k:Nat=>k<=r.coef.length) (fun k=>[(33, .int .i64 (k:Int)),(6, .int .i64 (r.const+lR r.coef x k))]) (fun _=>[]) (fun k=>r.coef.length-k) 0 (Nat.zero_le _) ?_;conv=>whnf
 refine⟨?_,?_⟩
 ·show aL _ _ _ _ _
  rw[lR,Int.add_zero]
  exact sI
 rintro k hk
 have hc:=h3.2
 unfold nD at hc
 have hb:=xb h3.1 h2 (by omega) k (by omega)
 conv=>whnf
 refine ah ?_ ?_<;>(intro h1;conv=>whnf)
 ·refine nI ?_
  rw[tN]
  conv=>whnf
  refine nI ?_
  rw[tN]
  conv=>whnf
  have hm:=xa (h3.1 k (by omega)) (h2 k (by omega))
  refine aI ?_
  conv=>whnf
  refine aI ?_
  conv=>whnf
  repeat' ((first|refine nI ?_|refine aI ?_|refine dz trivial (by omega) ?_|refine dV trivial (by omega) ?_|refine dI ?_|refine dR ?_|refine dP ?_|refine al rfl ?_|refine pI _ rfl ?_|refine ap _ rfl ?_|refine tI ?_|refine fI ?_|refine ah (fun _=>?_) (fun _=>?_))<;>conv=>whnf)
  refine⟨k+1,?_,by omega,by dsimp only;omega⟩
  dsimp only
  rw[lR,<-Int.add_assoc]
  exact sI
 ·obtain rfl:k=r.coef.length:=by omega
  exact⟨by rw[C9 hp h3];rfl,rfl⟩
theorem xr (s:iq) (x:List Int) (hs:Jo s) (hx:x.length<=140737488355328):ab Tryz.prog 38 [.agg (qb s), .sl 0 an x] (fun u=>u= .bool (decide (vj s x))):=by
 refine ab.intro ac ag Tryz.func38 rfl (by decide) ?_;(conv=>whnf)
 refine al rfl ?_
 conv=>whnf
 (refine oP (z3 s hs) ?_;conv=>whnf)
 refine ah ?_ ?_<;>(intro h;conv=>whnf)
 ·exact⟨aq (fun hh=>h hh.1),rfl⟩
 have h0:iV s=0:=Classical.not_not.1 h
 obtain⟨a1,a2,a3,a4⟩:=te h0
 refine ah (fun h'=>?_) (fun h'=>?_)<;>conv=>whnf
 ·exact⟨aq (fun hh=>h' hh.2.1),rfl⟩
 have hl:(x.length:Int)=s.vars:=Classical.not_not.1 h'
 refine dC (vI x hx) (fun _=>?_) (fun _=>?_)<;>(conv=>whnf)
 case refine_2=>rename_i h2;exact⟨aq (fun hh=>h2 hh.2.2.1),rfl⟩
 rename_i h2
 refine aH.loopF ac ag (fun k:Nat=>k<=s.rows.length/\∀j,j<k->0<=qc (s.rows.getD j bz) x) (fun k=>[(27, .int .i64 (k:Int))]) (fun _=>[]) (fun k=>s.rows.length-k) 0 ⟨Nat.zero_le _,fun j hj=>absurd hj (Nat.not_lt_zero _)⟩ ?_;conv=>whnf
 refine⟨sI,?_⟩
 rintro k ⟨hk,ha⟩
 conv=>whnf
 refine ah ?_ ?_<;>(intro h1;conv=>whnf)
 ·refine nI ?_
  rw[tN]
  conv=>whnf
  have hc:=hs.2 k (by omega)
  have hw:=a2 k (by omega)
  have hv:=C9 (r:=s.rows.getD k bz) (x:=x) ⟨by omega,by omega,h2⟩ (a4 k (by omega))
  have hV:=HI (s.rows.getD k bz) x hc hx
  rw[hv] at hV
  (refine oP (hV) ?_;conv=>whnf)
  refine fI ?_
  conv=>whnf
  refine ah ?_ ?_<;>(intro h3;conv=>whnf)
  ·exact⟨aq (fun hh=>by have:=hh.2.2.2 k (by omega);omega),rfl⟩
  repeat' ((first|refine nI ?_|refine aI ?_|refine dz trivial (by omega) ?_|refine dV trivial (by omega) ?_|refine dI ?_|refine dR ?_|refine dP ?_|refine al rfl ?_|refine pI _ rfl ?_|refine ap _ rfl ?_|refine tI ?_|refine fI ?_|refine ah (fun _=>?_) (fun _=>?_))<;>conv=>whnf)
  refine⟨k+1,sI,⟨by omega,fun j hj=>?_⟩,by dsimp only;omega⟩
  by_cases e:j=k
  ·subst e;omega
  ·exact ha j (by omega)
 ·obtain rfl:k=s.rows.length:=by omega
  exact⟨az ⟨h0,hl,h2,ha⟩,rfl⟩
set_option maxHeartbeats 32000000
theorem mO (n lo hi:Int):ab Tryz.prog 186 [.int .i64 n, .int .i64 lo, .int .i64 hi] (fun u=>u= .bool (decide (lo<=n/\n<=hi))):=by
 refine ab.intro ac ag Tryz.func186 rfl (by decide) ?_;(conv=>whnf)
 refine ah ?_ ?_<;>(intro h;conv=>whnf)
 ·refine ah ?_ ?_<;>(intro h2;conv=>whnf)
  ·exact⟨az ⟨by omega,by omega⟩,rfl⟩
  ·exact⟨aq (fun hh=>by omega),rfl⟩
 ·exact⟨aq (fun hh=>by omega),rfl⟩
theorem HJ (r:cK) (hl:r.coef.length<=140737488355328):ab Tryz.prog 187 [.agg (bE r)] (fun u=>u= .bool (decide (ou r))):=by
 refine ab.intro ac ag Tryz.func187 rfl (by decide) ?_;(conv=>whnf)
 refine al rfl ?_
 conv=>whnf
 refine aH.loopF ac ag (fun k:Nat=>k<=r.coef.length/\∀j,j<k->nD (r.coef.getD j 0)) (fun k=>[(3, .int .i64 (k:Int))]) (fun _=>[]) (fun k=>r.coef.length-k) 0 ⟨Nat.zero_le _,fun j hj=>absurd hj (Nat.not_lt_zero _)⟩ ?_;conv=>whnf
 refine⟨sI,?_⟩
 rintro k ⟨hk,ha⟩
 conv=>whnf
 refine ah ?_ ?_<;>(intro h1;conv=>whnf)
 ·refine nI ?_
  rw[tN]
  conv=>whnf
  refine dC (mO (r.coef.getD k 0) (-68719476736) 68719476736) (fun _=>?_) (fun _=>?_)<;>(conv=>whnf)
  ·rename_i h2
   repeat' ((first|refine nI ?_|refine aI ?_|refine dz trivial (by omega) ?_|refine dV trivial (by omega) ?_|refine dI ?_|refine dR ?_|refine dP ?_|refine al rfl ?_|refine pI _ rfl ?_|refine ap _ rfl ?_|refine tI ?_|refine fI ?_|refine ah (fun _=>?_) (fun _=>?_))<;>conv=>whnf)
   refine⟨k+1,sI,⟨by omega,fun j hj=>?_⟩,by dsimp only;omega⟩
   by_cases e:j=k
   ·subst e;exact h2
   ·exact ha j (by omega)
  ·rename_i h2
   exact⟨aq (fun h=>h2 (h.1 k (by omega))),rfl⟩
 ·obtain rfl:k=r.coef.length:=by omega
  refine dC (mO r.const (-68719476736) 68719476736) (fun _=>?_) (fun _=>?_)<;>(conv=>whnf)
  ·rename_i h2
   exact⟨az ⟨ha,h2⟩,rfl⟩
  ·rename_i h2
   exact⟨aq (fun h=>h2 h.2),rfl⟩
theorem z5 (s:iq) (hs:Jo s):ab Tryz.prog 108 [.agg (qb s)] (fun u=>u= .int .i64 (iV s)):=by
 have hs1:=hs.1
 refine ab.intro ac ag Tryz.func108 rfl (by decide) ?_;(conv=>whnf)
 refine al rfl ?_
 conv=>whnf
 refine dC (mO s.vars 0 96) (fun _=>?_) (fun _=>?_)<;>(conv=>whnf)
 rotate_left
 ·rename_i h
  exact⟨n9 (by unfold iV;rw[if_pos (by omega)]),rfl⟩
 rename_i h
 have h0:¬(s.vars<0\/96<s.vars):=by omega
 refine aH.loopF ac ag (fun k:Nat=>k<=s.rows.length/\∀j,j<k->((s.rows.getD j bz).coef.length:Int)=s.vars) (fun k=>[(3, .int .i64 (k:Int))]) (fun _=>[]) (fun k=>s.rows.length-k) 0 ⟨Nat.zero_le _,fun j hj=>absurd hj (Nat.not_lt_zero _)⟩ ?_;conv=>whnf
 refine⟨sI,?_⟩
 rintro k ⟨hk,ha⟩
 conv=>whnf
 refine ah ?_ ?_<;>(intro h1;conv=>whnf)
 ·have hc:=hs.2 k (by omega)
  refine dI ?_
  conv=>whnf
  refine nI ?_
  rw[tN]
  conv=>whnf
  refine ah ?_ ?_<;>(intro h2;conv=>whnf)
  ·exact⟨n9 (C6 fun hw=>h2 (hw k (by omega))).symm,rfl⟩
  ·repeat' ((first|refine nI ?_|refine aI ?_|refine dz trivial (by omega) ?_|refine dV trivial (by omega) ?_|refine dI ?_|refine dR ?_|refine dP ?_|refine al rfl ?_|refine pI _ rfl ?_|refine ap _ rfl ?_|refine tI ?_|refine fI ?_|refine ah (fun _=>?_) (fun _=>?_))<;>conv=>whnf)
   refine⟨k+1,sI,⟨by omega,fun j hj=>?_⟩,by dsimp only;omega⟩
   by_cases e:j=k
   ·subst e;exact Classical.not_not.1 h2
   ·exact ha j (by omega)
 ·obtain rfl:k=s.rows.length:=by omega
  have hw:qU s:=ha
  refine ah ?_ ?_<;>(intro h2;conv=>whnf)
  ·exact⟨n9 (C7 h0 hw (by omega)).symm,rfl⟩
  refine aH.loopF ac ag (fun k:Nat=>k<=s.rows.length/\∀j,j<k->ou (s.rows.getD j bz)) (fun k=>[(4, .int .i64 (k:Int))]) (fun _=>[]) (fun k=>s.rows.length-k) 0 ⟨Nat.zero_le _,fun j hj=>absurd hj (Nat.not_lt_zero _)⟩ ?_;conv=>whnf
  refine⟨sI,?_⟩
  rintro k ⟨hk,hb⟩
  conv=>whnf
  refine ah ?_ ?_<;>(intro h1;conv=>whnf)
  ·refine nI ?_
   rw[tN]
   conv=>whnf
   have hc:=hs.2 k (by omega)
   refine dC (HJ (s.rows.getD k bz) hc) (fun _=>?_) (fun _=>?_)<;>(conv=>whnf)
   ·rename_i h3
    repeat' ((first|refine nI ?_|refine aI ?_|refine dz trivial (by omega) ?_|refine dV trivial (by omega) ?_|refine dI ?_|refine dR ?_|refine dP ?_|refine al rfl ?_|refine pI _ rfl ?_|refine ap _ rfl ?_|refine tI ?_|refine fI ?_|refine ah (fun _=>?_) (fun _=>?_))<;>conv=>whnf)
    refine⟨k+1,sI,⟨by omega,fun j hj=>?_⟩,by dsimp only;omega⟩
    by_cases e:j=k
    ·subst e;exact h3
    ·exact hb j (by omega)
   ·rename_i h3
    exact⟨n9 (C8 h0 hw (fun hh=>h3 (hh k (by omega)))).symm,rfl⟩
  ·obtain rfl:k=s.rows.length:=by omega
   exact⟨n9 (tf (by omega) hw (by omega) hb).symm,rfl⟩
end Go.Proofs.YtnjggjhkfncnlaaGreatDoor
