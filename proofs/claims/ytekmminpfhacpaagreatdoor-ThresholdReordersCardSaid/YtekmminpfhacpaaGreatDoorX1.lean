import Derived.Test.YtekmminpfhacpaaGreatDoorFuA
set_option linter.unusedVariables false
set_option linter.unusedSimpArgs false
namespace Go.Proofs.YtekmminpfhacpaaGreatDoor
set_option maxRecDepth 100000
set_option maxHeartbeats 8000000
structure C9 where
 src:List Int
 mult:List Int
 div:Int
structure G9 where
 lines:List C9
 var:Int
 at_:Int
 left:Int
 right:Int
def MY:C9:=⟨[],[],0⟩
def nO:G9:=⟨[],0,0,0,0⟩
def MZ (vars:Nat) (rows:List fo) (d:C9):Nat->List Int
 |0=>List.replicate vars 0
 |i+1=>
  if d.src.getD i 0<0 then(MZ vars rows d i).set (-1-d.src.getD i 0).toNat ((MZ vars rows d i).getD (-1-d.src.getD i 0).toNat 0+d.mult.getD i 0)
  else(List.range vars).map fun j=>(MZ vars rows d i).getD j 0+d.mult.getD i 0*(rows.getD (d.src.getD i 0).toNat cP).coef.getD j 0
def N9 (rows:List fo) (d:C9):Nat->Int
 |0=>0
 |i+1=>if d.src.getD i 0<0 then N9 rows d i else N9 rows d i+d.mult.getD i 0*(rows.getD (d.src.getD i 0).toNat cP).const
def M0 (vars n:Nat) (d:C9) (i:Nat):Prop:=(-(vars:Int)<=d.src.getD i 0/\d.src.getD i 0<n)/\1<=d.mult.getD i 0/\d.mult.getD i 0<=65536
instance (vars n:Nat) (d:C9) (i:Nat):Decidable (M0 vars n d i):=inferInstanceAs (Decidable (_/\_))
def M3 (d:C9):Prop:=d.src.length=d.mult.length/\(1<=d.src.length/\d.src.length<=64)/\1<=d.div/\d.div<=68719476736
instance (d:C9):Decidable (M3 d):=inferInstanceAs (Decidable (_/\_))
def OQ (a d:Int):Int:=if a.tmod d<0 then a.tdiv d-1 else a.tdiv d
def OD (vars:Nat) (rows:List fo) (d:C9):fo:=⟨(MZ vars rows d d.src.length).map (·.tdiv d.div),OQ (N9 rows d d.src.length) d.div⟩
def OE (vars:Nat) (rows:List fo) (d:C9):Prop:=
 M3 d/\(∀i,i<d.src.length->M0 vars rows.length d i)/\(∀j,j<vars->((MZ vars rows d d.src.length).getD j 0).tmod d.div=0)/\uK (OD vars rows d)
instance (vars:Nat) (rows:List fo) (d:C9):Decidable (OE vars rows d):=inferInstanceAs (Decidable (_/\_))
def M4 (vars n i:Nat) (x:G9):Prop:=x.var=-1\/((0<=x.var/\x.var<vars)/\(0<=x.at_/\x.at_<=1048576)/\((i:Int)<x.left/\x.left<n)/\((i:Int)<x.right/\x.right<n))
instance (vars n i:Nat) (x:G9):Decidable (M4 vars n i x):=inferInstanceAs (Decidable (_\/_))
def M5 (nodes:List G9) (c:Int):Nat->Int
 |0=>0
 |k+1=>M5 nodes c k+(if(nodes.getD k nO).var=-1 then 0 else(if(nodes.getD k nO).left=c then 1 else 0)+(if(nodes.getD k nO).right=c then 1 else 0))
def M6 (nodes:List G9):Nat->Nat
 |0=>0
 |k+1=>M6 nodes k+(nodes.getD k nO).lines.length
def M7 (vars:Nat) (nodes:List G9):Prop:=
 (1<=nodes.length/\nodes.length<=400)/\(∀i,i<nodes.length->M4 vars nodes.length i (nodes.getD i nO))/\(∀i,i<nodes.length->0<i->M5 nodes i nodes.length=1)/\M6 nodes nodes.length<=400
instance (vars:Nat) (nodes:List G9):Decidable (M7 vars nodes):=inferInstanceAs (Decidable (_/\_))
def M8 (r:fo):Prop:=(∀j,j<r.coef.length->r.coef.getD j 0<=0)/\r.const<0
instance (r:fo):Decidable (M8 r):=inferInstanceAs (Decidable (_/\_))
def JS (l:List fo):Prop:=∃j,j<l.length/\M8 (l.getD j cP)
instance (l:List fo):Decidable (JS l):=inferInstanceAs (Decidable (∃j,j<l.length/\_))
def OG (vars:Nat) (rows:List fo) (l:List C9):Nat->Option (List fo)
 |0=>some rows
 |k+1=>match OG vars rows l k with
  |none=>none
  |some a=>if OE vars a (l.getD k MY) then some (a++[OD vars a (l.getD k MY)]) else none
def N' (vars:Nat) (v k:Int):fo:=⟨(List.replicate vars 0).set v.toNat (-1),k⟩
def Oa (vars:Nat) (v k:Int):fo:=⟨(List.replicate vars 0).set v.toNat 1,-k⟩
def Lp (vars:Nat) (nodes:List G9):Nat->Nat->List fo->Bool
 |0,_,_=>false
 |m+1,i,rows=>match OG vars rows (nodes.getD i nO).lines (nodes.getD i nO).lines.length with
  |none=>false
  |some a=>if(nodes.getD i nO).var=-1 then decide (JS a)
   else Lp vars nodes m (nodes.getD i nO).left.toNat (a++[N' vars (nodes.getD i nO).var (nodes.getD i nO).at_])&&Lp vars nodes m (nodes.getD i nO).right.toNat (a++[Oa vars (nodes.getD i nO).var ((nodes.getD i nO).at_+1)])
def Ob (s:kp) (nodes:List G9):Prop:=kL s=0/\M7 s.vars.toNat nodes/\Lp s.vars.toNat nodes nodes.length 0 s.rows=true
instance (s:kp) (nodes:List G9):Decidable (Ob s nodes):=inferInstanceAs (Decidable (_/\_))
structure Oc (vars:Nat) (x:List Int) (rows:List fo):Prop where
 len:x.length=vars
 pos:∀j,0<=x.getD j 0
 sat:∀j,j<rows.length->0<=uM (rows.getD j cP) x
theorem Oc.app {vars:Nat} {x:List Int} {rows:List fo} {r:fo} (h:Oc vars x rows) (hr:0<=uM r x):Oc vars x (rows++[r]):=by
 refine⟨h.len,h.pos,fun j hj=>?_⟩
 rw[List.length_append] at hj
 by_cases e:j<rows.length
 ·rw[gD,List.getElem?_append_left e,<-gD];exact h.sat j e
 ·have:j=rows.length:=by simp only[List.length_cons,List.length_nil] at hj;omega
  subst this
  rw[gD,List.getElem?_append_right (Nat.le_refl _),Nat.sub_self]
  exact hr
set_option maxHeartbeats 16000000
def Od (s:kp):Prop:=s.rows.length<=140737488355328/\∀j,j<s.rows.length->(s.rows.getD j cP).coef.length<=140737488355328
theorem tD {s:kp} (h:kL s=0):Od s:=by
 obtain⟨h1,h2,h3,_⟩:=Av h
 exact⟨by omega,fun j hj=>by have:=h2 j hj;omega⟩
theorem uZ (n:Int):ab Tryz.prog 212 [.int .i64 n] (fun u=>u= .bool (decide (rA n))):=by
 refine ab.intro ae ag Tryz.func212 rfl (by decide) ?_;(conv=>whnf)
 refine ah ?_ ?_<;>(intro h;conv=>whnf)
 ·refine ah ?_ ?_<;>(intro h2;conv=>whnf)
  ·exact⟨aH ⟨h,h2⟩,rfl⟩
  ·exact⟨au (fun hh=>h2 hh.2),rfl⟩
 ·exact⟨au (fun hh=>h hh.1),rfl⟩
theorem M9 (r:fo) (hl:r.coef.length<=140737488355328):ab Tryz.prog 127 [.agg (dM r)] (fun u=>u= .bool (decide (uK r))):=by
 refine ab.intro ae ag Tryz.func127 rfl (by decide) ?_;(conv=>whnf)
 refine al rfl ?_
 conv=>whnf
 refine aQ.loopF ae ag (fun k:Nat=>k<=r.coef.length/\∀j,j<k->rA (r.coef.getD j 0)) (fun k=>[(8, .int .i64 (k:Int))]) (fun _=>[]) (fun k=>r.coef.length-k) 0 ⟨Nat.zero_le _,fun j hj=>absurd hj (Nat.not_lt_zero _)⟩ ?_;conv=>whnf
 refine⟨sI,?_⟩
 rintro k ⟨hk,ha⟩
 conv=>whnf
 refine ah ?_ ?_<;>(intro h1;conv=>whnf)
 ·refine nI ?_
  rw[tN]
  conv=>whnf
  refine dC (uZ (r.coef.getD k 0)) (fun _=>?_) (fun _=>?_)<;>(conv=>whnf)
  ·rename_i h2
   repeat' ((first|refine nI ?_|refine aI ?_|refine fb trivial (by omega) ?_|refine fv trivial (by omega) ?_|refine dI ?_|refine dR ?_|refine dP ?_|refine al rfl ?_|refine pI _ rfl ?_|refine aw _ rfl ?_|refine tI ?_|refine fI ?_|refine ah (fun _=>?_) (fun _=>?_))<;>conv=>whnf)
   refine⟨k+1,sI,⟨by omega,fun j hj=>?_⟩,by dsimp only;omega⟩
   by_cases e:j=k
   ·subst e;exact h2
   ·exact ha j (by omega)
  ·rename_i h2
   exact⟨au (fun h=>h2 (h.1 k (by omega))),rfl⟩
 ·obtain rfl:k=r.coef.length:=by omega
  by_cases h2:rA r.const
  ·have hw:=uZ r.const
   rw[decide_eq_true h2] at hw
   (refine oP (hw) ?_;conv=>whnf)
   exact⟨aH ⟨ha,h2⟩,rfl⟩
  ·have hw:=uZ r.const
   rw[decide_eq_false h2] at hw
   (refine oP (hw) ?_;conv=>whnf)
   exact⟨au (fun h=>h2 h.2),rfl⟩
theorem FN {s:kp} (h:s.vars<0\/96<s.vars):kL s=1:=by unfold kL;rw[if_pos h]
theorem Lq {s:kp} (h:¬uL s):kL s=1:=by
 unfold kL
 by_cases h0:s.vars<0\/96<s.vars
 ·rw[if_pos h0]
 ·rw[if_neg h0,if_pos h]
theorem Lr {s:kp} (h0:¬(s.vars<0\/96<s.vars)) (h1:uL s) (h:192<s.rows.length):kL s=4:=by unfold kL;rw[if_neg h0,if_neg (fun x=>x h1),if_pos h]
theorem Ls {s:kp} (h0:¬(s.vars<0\/96<s.vars)) (h1:uL s) (h2:¬Cm s.rows):kL s=4:=by
 unfold kL
 rw[if_neg h0,if_neg (fun x=>x h1)]
 by_cases h3:192<s.rows.length
 ·rw[if_pos h3]
 ·rw[if_neg h3,if_pos h2]
theorem CD (s:kp) (hs:Od s):ab Tryz.prog 56 [.agg (Au s)] (fun u=>u= .int .i64 (kL s)):=by
 have hs1:=hs.1
 refine ab.intro ae ag Tryz.func56 rfl (by decide) ?_;(conv=>whnf)
 refine al rfl ?_
 conv=>whnf
 refine ah ?_ ?_<;>(intro h;conv=>whnf)
 ·exact⟨C6 (FN (.inl h)).symm,rfl⟩
 refine ah (fun h'=>?_) (fun h'=>?_)<;>conv=>whnf
 ·exact⟨C6 (FN (.inr h')).symm,rfl⟩
 have h0:¬(s.vars<0\/96<s.vars):=by omega
 refine aQ.loopF ae ag (fun k:Nat=>k<=s.rows.length/\∀j,j<k->((s.rows.getD j cP).coef.length:Int)=s.vars) (fun k=>[(18, .int .i64 (k:Int))]) (fun _=>[]) (fun k=>s.rows.length-k) 0 ⟨Nat.zero_le _,fun j hj=>absurd hj (Nat.not_lt_zero _)⟩ ?_;conv=>whnf
 refine⟨sI,?_⟩
 rintro k ⟨hk,ha⟩
 conv=>whnf
 refine ah ?_ ?_<;>(intro h1;conv=>whnf)
 ·refine nI ?_
  rw[tN]
  conv=>whnf
  have hc:=hs.2 k (by omega)
  refine ah ?_ ?_<;>(intro h2;conv=>whnf)
  ·exact⟨C6 (Lq fun hw=>h2 (hw k (by omega))).symm,rfl⟩
  ·repeat' ((first|refine nI ?_|refine aI ?_|refine fb trivial (by omega) ?_|refine fv trivial (by omega) ?_|refine dI ?_|refine dR ?_|refine dP ?_|refine al rfl ?_|refine pI _ rfl ?_|refine aw _ rfl ?_|refine tI ?_|refine fI ?_|refine ah (fun _=>?_) (fun _=>?_))<;>conv=>whnf)
   refine⟨k+1,sI,⟨by omega,fun j hj=>?_⟩,by dsimp only;omega⟩
   by_cases e:j=k
   ·subst e;exact Classical.not_not.1 h2
   ·exact ha j (by omega)
 ·obtain rfl:k=s.rows.length:=by omega
  have hw:uL s:=ha
  refine ah ?_ ?_<;>(intro h2;conv=>whnf)
  ·exact⟨C6 (Lr h0 hw (by omega)).symm,rfl⟩
  refine aQ.loopF ae ag (fun k:Nat=>k<=s.rows.length/\∀j,j<k->uK (s.rows.getD j cP)) (fun k=>[(36, .int .i64 (k:Int))]) (fun _=>[]) (fun k=>s.rows.length-k) 0 ⟨Nat.zero_le _,fun j hj=>absurd hj (Nat.not_lt_zero _)⟩ ?_;conv=>whnf
  refine⟨sI,?_⟩
  rintro k ⟨hk,hb⟩
  conv=>whnf
  refine ah ?_ ?_<;>(intro h1;conv=>whnf)
  ·refine nI ?_
   rw[tN]
   conv=>whnf
   have hc:=hs.2 k (by omega)
   refine dC (M9 (s.rows.getD k cP) hc) (fun _=>?_) (fun _=>?_)<;>(conv=>whnf)
   ·rename_i h3
    repeat' ((first|refine nI ?_|refine aI ?_|refine fb trivial (by omega) ?_|refine fv trivial (by omega) ?_|refine dI ?_|refine dR ?_|refine dP ?_|refine al rfl ?_|refine pI _ rfl ?_|refine aw _ rfl ?_|refine tI ?_|refine fI ?_|refine ah (fun _=>?_) (fun _=>?_))<;>conv=>whnf)
    refine⟨k+1,sI,⟨by omega,fun j hj=>?_⟩,by dsimp only;omega⟩
    by_cases e:j=k
    ·subst e;exact h3
    ·exact hb j (by omega)
   ·rename_i h3
    exact⟨C6 (Ls h0 hw (fun hh=>h3 (hh k (by omega)))).symm,rfl⟩
  ·obtain rfl:k=s.rows.length:=by omega
   exact⟨C6 (Aw (by omega) hw (by omega) hb).symm,rfl⟩
theorem xr (x:List Int) (hl:x.length<=140737488355328):ab Tryz.prog 86 [.sl 0 ao x] (fun u=>u= .bool (decide (E3 x))):=by
 refine ab.intro ae ag Tryz.func86 rfl (by decide) ?_;(conv=>whnf)
 refine aQ.loopF ae ag (fun k:Nat=>k<=x.length/\∀j,j<k->0<=x.getD j 0/\x.getD j 0<=1048576) (fun k=>[(7, .int .i64 (k:Int))]) (fun _=>[]) (fun k=>x.length-k) 0 ⟨Nat.zero_le _,fun j hj=>absurd hj (Nat.not_lt_zero _)⟩ ?_;conv=>whnf
 refine⟨sI,?_⟩
 rintro k ⟨hk,ha⟩
 conv=>whnf
 refine ah ?_ ?_<;>(intro h1;conv=>whnf)
 ·refine nI ?_
  rw[tN]
  conv=>whnf
  refine ah ?_ ?_<;>(intro h2;conv=>whnf)
  ·exact⟨au (fun h=>by have:=h k (by omega);omega),rfl⟩
  refine ah ?_ ?_<;>(intro h3;conv=>whnf)
  ·exact⟨au (fun h=>by have:=h k (by omega);omega),rfl⟩
  repeat' ((first|refine nI ?_|refine aI ?_|refine fb trivial (by omega) ?_|refine fv trivial (by omega) ?_|refine dI ?_|refine dR ?_|refine dP ?_|refine al rfl ?_|refine pI _ rfl ?_|refine aw _ rfl ?_|refine tI ?_|refine fI ?_|refine ah (fun _=>?_) (fun _=>?_))<;>conv=>whnf)
  refine⟨k+1,sI,⟨by omega,fun j hj=>?_⟩,by dsimp only;omega⟩
  by_cases e:j=k
  ·subst e;omega
  ·exact ha j (by omega)
 ·obtain rfl:k=x.length:=by omega
  exact⟨aH ha,rfl⟩
def CE (r:fo) (x:List Int):Prop:=r.coef.length=x.length/\x.length<=96/\E3 x
instance (r:fo) (x:List Int):Decidable (CE r x):=inferInstanceAs (Decidable (_/\_))
def zi (r:fo) (x:List Int):Int×Int:=if CE r x then(if uK r then(uM r x,0) else(0,4)) else(0,1)
def Na (a:Int×Int):AV:=.tup [.int .i64 a.1, .int .i64 a.2]
theorem zj {r:fo} {x:List Int} (h:¬CE r x):zi r x=(0,1):=by unfold zi;rw[if_neg h]
theorem Lt {r:fo} {x:List Int} (h:CE r x) (h2:¬uK r):zi r x=(0,4):=by unfold zi;rw[if_pos h,if_neg h2]
theorem FO {r:fo} {x:List Int} (h:CE r x) (h2:uK r):zi r x=(uM r x,0):=by unfold zi;rw[if_pos h,if_pos h2]
theorem Lu (r:fo) (x:List Int) (hr:r.coef.length<=140737488355328) (hx:x.length<=140737488355328):
  ab Tryz.prog 87 [.agg (dM r), .sl 0 ao x] (fun u=>u=Na (zi r x)):=by
 refine ab.intro ae ag Tryz.func87 rfl (by decide) ?_;(conv=>whnf)
 refine al rfl ?_
 conv=>whnf
 refine ah ?_ ?_<;>(intro h;conv=>whnf)
 ·exact⟨by rw[zj (fun hh=>h (by have:=hh.1;omega))];rfl,rfl⟩
 refine ah (fun h'=>?_) (fun h'=>?_)<;>conv=>whnf
 ·exact⟨by rw[zj (fun hh=>by have:=hh.2.1;omega)];rfl,rfl⟩
 refine dC (xr x hx) (fun _=>?_) (fun _=>?_)<;>(conv=>whnf)
 case refine_2=>rename_i h2;exact⟨by rw[zj (fun hh=>h2 hh.2.2)];rfl,rfl⟩
 rename_i h2
 have hp:CE r x:=⟨by omega,by omega,h2⟩
 refine dC (M9 r hr) (fun _=>?_) (fun _=>?_)<;>(conv=>whnf)
 case refine_2=>rename_i h3;exact⟨by rw[Lt hp h3];rfl,rfl⟩
 rename_i h3
 refine aQ.loopF ae ag (fun k:Nat=>k<=r.coef.length) (fun k=>[(33, .int .i64 (k:Int)),(6, .int .i64 (r.const+pQ r.coef x k))]) (fun _=>[]) (fun k=>r.coef.length-k) 0 (Nat.zero_le _) ?_;conv=>whnf
 refine⟨?_,?_⟩
 ·show bn _ _ _ _ _
  rw[pQ,Int.add_zero]
  exact sI
 rintro k hk
 have hc:=h3.2
 unfold rA at hc
 have hb:=E5 h3.1 h2 (by omega) k (by omega)
 conv=>whnf
 refine ah ?_ ?_<;>(intro h1;conv=>whnf)
 ·refine nI ?_
  rw[tN]
  conv=>whnf
  refine nI ?_
  rw[tN]
  conv=>whnf
  have hm:=E4 (h3.1 k (by omega)) (h2 k (by omega))
  refine aI ?_
  conv=>whnf
  refine aI ?_
  conv=>whnf
  repeat' ((first|refine nI ?_|refine aI ?_|refine fb trivial (by omega) ?_|refine fv trivial (by omega) ?_|refine dI ?_|refine dR ?_|refine dP ?_|refine al rfl ?_|refine pI _ rfl ?_|refine aw _ rfl ?_|refine tI ?_|refine fI ?_|refine ah (fun _=>?_) (fun _=>?_))<;>conv=>whnf)
  refine⟨k+1,?_,by omega,by dsimp only;omega⟩
  dsimp only
  rw[pQ,<-Int.add_assoc]
  exact sI
 ·obtain rfl:k=r.coef.length:=by omega
  exact⟨by rw[FO hp h3];rfl,rfl⟩
theorem rJ (s:kp) (x:List Int) (hs:Od s) (hx:x.length<=140737488355328):ab Tryz.prog 27 [.agg (Au s), .sl 0 ao x] (fun u=>u= .bool (decide (o8 s x))):=by
 refine ab.intro ae ag Tryz.func27 rfl (by decide) ?_;(conv=>whnf)
 refine al rfl ?_
 conv=>whnf
 (refine oP (CD s hs) ?_;conv=>whnf)
 refine ah ?_ ?_<;>(intro h;conv=>whnf)
 ·exact⟨au (fun hh=>h hh.1),rfl⟩
 have h0:kL s=0:=Classical.not_not.1 h
 obtain⟨a1,a2,a3,a4⟩:=Av h0
 refine ah (fun h'=>?_) (fun h'=>?_)<;>conv=>whnf
 ·exact⟨au (fun hh=>h' hh.2.1),rfl⟩
 have hl:(x.length:Int)=s.vars:=Classical.not_not.1 h'
 refine dC (xr x hx) (fun _=>?_) (fun _=>?_)<;>(conv=>whnf)
 case refine_2=>rename_i h2;exact⟨au (fun hh=>h2 hh.2.2.1),rfl⟩
 rename_i h2
 refine aQ.loopF ae ag (fun k:Nat=>k<=s.rows.length/\∀j,j<k->0<=uM (s.rows.getD j cP) x) (fun k=>[(27, .int .i64 (k:Int))]) (fun _=>[]) (fun k=>s.rows.length-k) 0 ⟨Nat.zero_le _,fun j hj=>absurd hj (Nat.not_lt_zero _)⟩ ?_;conv=>whnf
 refine⟨sI,?_⟩
 rintro k ⟨hk,ha⟩
 conv=>whnf
 refine ah ?_ ?_<;>(intro h1;conv=>whnf)
 ·refine nI ?_
  rw[tN]
  conv=>whnf
  have hc:=hs.2 k (by omega)
  have hw:=a2 k (by omega)
  have hv:=FO (r:=s.rows.getD k cP) (x:=x) ⟨by omega,by omega,h2⟩ (a4 k (by omega))
  have hV:=Lu (s.rows.getD k cP) x hc hx
  rw[hv] at hV
  (refine oP (hV) ?_;conv=>whnf)
  refine fI ?_
  conv=>whnf
  refine ah ?_ ?_<;>(intro h3;conv=>whnf)
  ·exact⟨au (fun hh=>by have:=hh.2.2.2 k (by omega);omega),rfl⟩
  repeat' ((first|refine nI ?_|refine aI ?_|refine fb trivial (by omega) ?_|refine fv trivial (by omega) ?_|refine dI ?_|refine dR ?_|refine dP ?_|refine al rfl ?_|refine pI _ rfl ?_|refine aw _ rfl ?_|refine tI ?_|refine fI ?_|refine ah (fun _=>?_) (fun _=>?_))<;>conv=>whnf)
  refine⟨k+1,sI,⟨by omega,fun j hj=>?_⟩,by dsimp only;omega⟩
  by_cases e:j=k
  ·subst e;omega
  ·exact ha j (by omega)
 ·obtain rfl:k=s.rows.length:=by omega
  exact⟨aH ⟨h0,hl,h2,ha⟩,rfl⟩
set_option maxHeartbeats 32000000
end Go.Proofs.YtekmminpfhacpaaGreatDoor
