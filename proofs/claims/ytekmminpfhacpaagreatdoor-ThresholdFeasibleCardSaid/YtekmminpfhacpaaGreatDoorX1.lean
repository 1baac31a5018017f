import Derived.Test.YtekmminpfhacpaaGreatDoorFuA
set_option linter.unusedVariables false
set_option linter.unusedSimpArgs false
namespace Go.Proofs.YtekmminpfhacpaaGreatDoor
set_option maxRecDepth 100000
set_option maxHeartbeats 8000000
structure l8 where
 src:List Int
 mult:List Int
 div:Int
structure gC where
 lines:List l8
 var:Int
 at_:Int
 left:Int
 right:Int
def E1:l8:=⟨[],[],0⟩
def aw:gC:=⟨[],0,0,0,0⟩
def vP (d:l8):List AV:=[.sl 0 ak d.src, .sl 0 ak d.mult, .int .i64 d.div]
def bn (n:gC):List AV:=[.sl E1 vP n.lines, .int .i64 n.var, .int .i64 n.at_, .int .i64 n.left, .int .i64 n.right]
def i8 (vars:Nat) (rows:List br) (d:l8):Nat->List Int
 |0=>List.replicate vars 0
 |i+1=>
  if d.src.getD i 0<0 then(i8 vars rows d i).set (-1-d.src.getD i 0).toNat ((i8 vars rows d i).getD (-1-d.src.getD i 0).toNat 0+d.mult.getD i 0)
  else(List.range vars).map fun j=>(i8 vars rows d i).getD j 0+d.mult.getD i 0*(rows.getD (d.src.getD i 0).toNat av).coef.getD j 0
def tT (rows:List br) (d:l8):Nat->Int
 |0=>0
 |i+1=>if d.src.getD i 0<0 then tT rows d i else tT rows d i+d.mult.getD i 0*(rows.getD (d.src.getD i 0).toNat av).const
def rH (vars n:Nat) (d:l8) (i:Nat):Prop:=(-(vars:Int)<=d.src.getD i 0/\d.src.getD i 0<n)/\1<=d.mult.getD i 0/\d.mult.getD i 0<=65536
instance (vars n:Nat) (d:l8) (i:Nat):Decidable (rH vars n d i):=inferInstanceAs (Decidable (_/\_))
def E2 (d:l8):Prop:=d.src.length=d.mult.length/\(1<=d.src.length/\d.src.length<=64)/\1<=d.div/\d.div<=68719476736
instance (d:l8):Decidable (E2 d):=inferInstanceAs (Decidable (_/\_))
def Ln (a d:Int):Int:=if a.tmod d<0 then a.tdiv d-1 else a.tdiv d
def od (vars:Nat) (rows:List br) (d:l8):br:=⟨(i8 vars rows d d.src.length).map (·.tdiv d.div),Ln (tT rows d d.src.length) d.div⟩
def x7 (vars:Nat) (rows:List br) (d:l8):Prop:=
 E2 d/\(∀i,i<d.src.length->rH vars rows.length d i)/\(∀j,j<vars->((i8 vars rows d d.src.length).getD j 0).tmod d.div=0)/\lz (od vars rows d)
instance (vars:Nat) (rows:List br) (d:l8):Decidable (x7 vars rows d):=inferInstanceAs (Decidable (_/\_))
def mR (vars:Nat) (rows:List br):Prop:=∀j,j<rows.length->(rows.getD j av).coef.length=vars/\lz (rows.getD j av)
theorem lF (vars:Nat) (rows:List br) (d:l8):∀i,(i8 vars rows d i).length=vars
 |0=>by simp[i8]
 |i+1=>by
  rw[i8]
  split
  ·rw[List.length_set,lF vars rows d i]
  ·simp
theorem xn {a b:Int} (ha:iB a) (hb:1<=b/\b<=65536):-4503599627370496<=b*a/\b*a<=4503599627370496:=by
 have h1:b*a<=b*68719476736:=Int.mul_le_mul_of_nonneg_left ha.2 (by omega)
 have h2:b*-68719476736<=b*a:=Int.mul_le_mul_of_nonneg_left ha.1 (by omega)
 omega
theorem ME {vars:Nat} {rows:List br} {d:l8} (hr:mR vars rows):∀(i:Nat),(∀k,k<i->rH vars rows.length d k)->∀j,-4503599627370496*(i:Int)<=(i8 vars rows d i).getD j 0/\(i8 vars rows d i).getD j 0<=4503599627370496*(i:Int)
 |0,_,j=>by
  have:(i8 vars rows d 0).getD j 0=0:=by
   rw[i8,gD,List.getElem?_replicate];split<;>rfl
  rw[this];simp
 |i+1,h,j=>by
  have ih:=ME hr i (fun k hk=>h k (by omega))
  have ht:=h i (by omega)
  rw[i8]
  split
  ·rename_i hs
   by_cases e:(-1-d.src.getD i 0).toNat=j
   ·by_cases hj:j<(i8 vars rows d i).length
    ·subst e
     rw[gD,List.getElem?_set_self hj]
     have:=ih (-1-d.src.getD i 0).toNat
     have:=ht.2
     simp only[Option.getD_some]
     omega
    ·rw[gD,List.getElem?_eq_none (by simp only[List.length_set];omega)]
     simp only[Option.getD_none]
     omega
   ·rw[gD,List.getElem?_set_ne e,<-gD]
    have:=ih j
    omega
  ·rename_i hs
   by_cases hj:j<vars
   ·rw[am 0 (by simpa using hj),List.getElem_map,List.getElem_range]
    have a:=ih j
    have hrow:=hr (d.src.getD i 0).toNat (by have:=ht.1;omega)
    have b:iB ((rows.getD (d.src.getD i 0).toNat av).coef.getD j 0):=hrow.2.1 j (by omega)
    have c:=xn b ht.2
    omega
   ·rw[gD,List.getElem?_eq_none (by simpa using hj)]
    simp only[Option.getD_none]
    omega
theorem MF {vars:Nat} {rows:List br} {d:l8} (hr:mR vars rows):∀(i:Nat),(∀k,k<i->rH vars rows.length d k)->-4503599627370496*(i:Int)<=tT rows d i/\tT rows d i<=4503599627370496*(i:Int)
 |0,_=>by simp[tT]
 |i+1,h=>by
  have ih:=MF hr i (fun k hk=>h k (by omega))
  have ht:=h i (by omega)
  rw[tT]
  split
  ·omega
  ·have hrow:=hr (d.src.getD i 0).toNat (by have:=ht.1;omega)
   have c:=xn hrow.2.2 ht.2
   omega
theorem C7 {vars:Nat} {rows:List br} {d:l8} (h:x7 vars rows d):(od vars rows d).coef.length=vars/\lz (od vars rows d):=
 ⟨by simp[od,lF],h.2.2.2⟩
def xo (vars n i:Nat) (x:gC):Prop:=x.var=-1\/((0<=x.var/\x.var<vars)/\(0<=x.at_/\x.at_<=1048576)/\((i:Int)<x.left/\x.left<n)/\((i:Int)<x.right/\x.right<n))
instance (vars n i:Nat) (x:gC):Decidable (xo vars n i x):=inferInstanceAs (Decidable (_\/_))
def lX (nodes:List gC) (c:Int):Nat->Int
 |0=>0
 |k+1=>lX nodes c k+(if(nodes.getD k aw).var=-1 then 0 else(if(nodes.getD k aw).left=c then 1 else 0)+(if(nodes.getD k aw).right=c then 1 else 0))
def iT (nodes:List gC):Nat->Nat
 |0=>0
 |k+1=>iT nodes k+(nodes.getD k aw).lines.length
def Qz (vars:Nat) (nodes:List gC):Prop:=
 (1<=nodes.length/\nodes.length<=400)/\(∀i,i<nodes.length->xo vars nodes.length i (nodes.getD i aw))/\(∀i,i<nodes.length->0<i->lX nodes i nodes.length=1)/\iT nodes nodes.length<=400
instance (vars:Nat) (nodes:List gC):Decidable (Qz vars nodes):=inferInstanceAs (Decidable (_/\_))
theorem E3 (nodes:List gC) {k m:Nat} (h:k<=m):iT nodes k<=iT nodes m:=by
 induction m with
 |zero=>rw[Nat.le_zero.1 h];exact Nat.le_refl _
 |succ m ih=>
  by_cases e:k=m+1
  ·rw[e];exact Nat.le_refl _
  ·have:=ih (by omega);rw[iT];omega
def zu (r:br):Prop:=(∀j,j<r.coef.length->r.coef.getD j 0<=0)/\r.const<0
instance (r:br):Decidable (zu r):=inferInstanceAs (Decidable (_/\_))
def kF (l:List br):Prop:=∃j,j<l.length/\zu (l.getD j av)
instance (l:List br):Decidable (kF l):=inferInstanceAs (Decidable (∃j,j<l.length/\_))
def An (vars:Nat) (rows:List br) (l:List l8):Nat->Option (List br)
 |0=>some rows
 |k+1=>match An vars rows l k with
  |none=>none
  |some a=>if x7 vars a (l.getD k E1) then some (a++[od vars a (l.getD k E1)]) else none
def jr (vars:Nat) (v k:Int):br:=⟨(List.replicate vars 0).set v.toNat (-1),k⟩
def jA (vars:Nat) (v k:Int):br:=⟨(List.replicate vars 0).set v.toNat 1,-k⟩
def BH (vars:Nat) (nodes:List gC):Nat->Nat->List br->Bool
 |0,_,_=>false
 |m+1,i,rows=>match An vars rows (nodes.getD i aw).lines (nodes.getD i aw).lines.length with
  |none=>false
  |some a=>if(nodes.getD i aw).var=-1 then decide (kF a)
   else BH vars nodes m (nodes.getD i aw).left.toNat (a++[jr vars (nodes.getD i aw).var (nodes.getD i aw).at_])&&BH vars nodes m (nodes.getD i aw).right.toNat (a++[jA vars (nodes.getD i aw).var ((nodes.getD i aw).at_+1)])
def Th (s:dN) (nodes:List gC):Prop:=fH s=0/\Qz s.vars.toNat nodes/\BH s.vars.toNat nodes nodes.length 0 s.rows=true
instance (s:dN) (nodes:List gC):Decidable (Th s nodes):=inferInstanceAs (Decidable (_/\_))
theorem nq {vars:Nat} {rows:List br} {r:br} (h:mR vars rows) (hr:r.coef.length=vars/\lz r):mR vars (rows++[r]):=by
 intro j hj
 rw[List.length_append] at hj
 by_cases e:j<rows.length
 ·rw[gD,List.getElem?_append_left e,<-gD];exact h j e
 ·have:j=rows.length:=by simp only[List.length_cons,List.length_nil] at hj;omega
  subst this
  rw[gD,List.getElem?_append_right (Nat.le_refl _),Nat.sub_self]
  exact hr
theorem xp {vars:Nat} {l:List l8} {rows:List br} (h:mR vars rows):∀{k:Nat} {a:List br},An vars rows l k=some a->mR vars a/\a.length=rows.length+k
 |0,a,e=>by cases e;exact⟨h,rfl⟩
 |k+1,a,e=>by
  rw[An] at e
  cases hk:An vars rows l k with
  |none=>rw[hk] at e;cases e
  |some b=>
   rw[hk] at e
   dsimp only at e
   obtain⟨h1,h2⟩:=xp h hk
   split at e
   ·rename_i hd
    cases e
    exact⟨nq h1 (C7 hd),by rw[List.length_append,h2];simp only[List.length_cons,List.length_nil];omega⟩
   ·cases e
theorem rZ {vars:Nat} {v k x:Int} (hx:x=1\/x=-1) (hk:iB k):(⟨(List.replicate vars 0).set v.toNat x,k⟩:br).coef.length=vars/\lz ⟨(List.replicate vars 0).set v.toNat x,k⟩:=by
 refine⟨by simp,fun j hj=>?_,hk⟩
 dsimp only at hj⊢
 rw[gD]
 by_cases e:v.toNat=j
 ·subst e
  rw[List.getElem?_set_self (by simpa using hj)]
  rcases hx with rfl|rfl<;>decide
 ·rw[List.getElem?_set_ne e,List.getElem?_replicate]
  split<;>decide
theorem C8 {s:dN} (h:fH s=0):mR s.vars.toNat s.rows:=by
 obtain⟨h1,h2,_,h4⟩:=lA h
 intro j hj
 have:=h2 j hj
 exact⟨by omega,h4 j hj⟩
theorem C9 {c x:List Int} {v:Nat} {a:Int} (hv:v<c.length):∀k,dw (c.set v a) x k=dw c x k+if v<k then(a-c.getD v 0)*x.getD v 0 else 0
 |0=>by simp[dw]
 |k+1=>by
  rw[dw,dw,C9 hv k]
  by_cases e:v=k
  ·subst e
   have:(c.set v a).getD v 0=a:=by
    rw[gD,List.getElem?_set_self hv];rfl
   rw[this,if_neg (by omega),if_pos (by omega),Int.sub_mul]
   omega
  ·have:(c.set v a).getD k 0=c.getD k 0:=by
    rw[gD,List.getElem?_set_ne e,<-gD]
   rw[this]
   by_cases h:v<k
   ·rw[if_pos h,if_pos (by omega)];omega
   ·rw[if_neg h,if_neg (by omega)];omega
theorem Da {c r x:List Int} {k:Int} {n:Nat}:∀m,m<=n->dw ((List.range n).map fun j=>c.getD j 0+k*r.getD j 0) x m=dw c x m+k*dw r x m
 |0,_=>by simp[dw]
 |m+1,h=>by
  rw[dw,dw,dw,Da m (by omega),am 0 (by simp;omega),List.getElem_map,List.getElem_range,Int.add_mul,Int.mul_add,Int.mul_assoc]
  omega
theorem zw (x:List Int) (n:Nat):∀k,dw (List.replicate n 0) x k=0
 |0=>rfl
 |k+1=>by
  rw[dw,zw x n k]
  have:(List.replicate n (0:Int)).getD k 0=0:=by
   rw[gD,List.getElem?_replicate];split<;>rfl
  rw[this];simp
structure R1 (vars:Nat) (x:List Int) (rows:List br):Prop where
 len:x.length=vars
 pos:∀j,0<=x.getD j 0
 sat:∀j,j<rows.length->0<=kC (rows.getD j av) x
theorem R1.app {vars:Nat} {x:List Int} {rows:List br} {r:br} (h:R1 vars x rows) (hr:0<=kC r x):R1 vars x (rows++[r]):=by
 refine⟨h.len,h.pos,fun j hj=>?_⟩
 rw[List.length_append] at hj
 by_cases e:j<rows.length
 ·rw[gD,List.getElem?_append_left e,<-gD];exact h.sat j e
 ·have:j=rows.length:=by simp only[List.length_cons,List.length_nil] at hj;omega
  subst this
  rw[gD,List.getElem?_append_right (Nat.le_refl _),Nat.sub_self]
  exact hr
set_option maxHeartbeats 16000000
def PN (s:dN):Prop:=s.rows.length<=140737488355328/\∀j,j<s.rows.length->(s.rows.getD j av).coef.length<=140737488355328
theorem qN {s:dN} (h:fH s=0):PN s:=by
 obtain⟨h1,h2,h3,_⟩:=lA h
 exact⟨by omega,fun j hj=>by have:=h2 j hj;omega⟩
theorem xq (n:Int):ab Tryz.prog 212 [.int .i64 n] (fun u=>u= .bool (decide (iB n))):=by
 refine ab.intro ae ag Tryz.func212 rfl (by decide) ?_;(conv=>whnf)
 refine ai ?_ ?_<;>(intro h;conv=>whnf)
 ·refine ai ?_ ?_<;>(intro h2;conv=>whnf)
  ·exact⟨bk ⟨h,h2⟩,rfl⟩
  ·exact⟨aC (fun hh=>h2 hh.2),rfl⟩
 ·exact⟨aC (fun hh=>h hh.1),rfl⟩
theorem OB (r:br) (hl:r.coef.length<=140737488355328):ab Tryz.prog 127 [.agg (aE r)] (fun u=>u= .bool (decide (lz r))):=by
 refine ab.intro ae ag Tryz.func127 rfl (by decide) ?_;(conv=>whnf)
 refine ar rfl ?_
 conv=>whnf
 refine a8.loopF ae ag (fun k:Nat=>k<=r.coef.length/\∀j,j<k->iB (r.coef.getD j 0)) (fun k=>[(8, .int .i64 (k:Int))]) (fun _=>[]) (fun k=>r.coef.length-k) 0 ⟨Nat.zero_le _,fun j hj=>absurd hj (Nat.not_lt_zero _)⟩ ?_;conv=>whnf
 refine⟨sI,?_⟩
 rintro k ⟨hk,ha⟩
 conv=>whnf
 refine ai ?_ ?_<;>(intro h1;conv=>whnf)
 ·refine nI ?_
  rw[tN]
  conv=>whnf
  refine dC (xq (r.coef.getD k 0)) (fun _=>?_) (fun _=>?_)<;>(conv=>whnf)
  ·rename_i h2
   repeat' ((first|refine nI ?_|refine aI ?_|refine uI ?_|refine vI ?_|refine dI ?_|refine dR ?_|refine dP ?_|refine ar rfl ?_|refine pI _ rfl ?_|refine an _ rfl ?_|refine tI ?_|refine fI ?_|refine ai (fun _=>?_) (fun _=>?_))<;>conv=>whnf)
   refine⟨k+1,sI,⟨by omega,fun j hj=>?_⟩,by dsimp only;omega⟩
   by_cases e:j=k
   ·subst e;exact h2
   ·exact ha j (by omega)
  ·rename_i h2
   exact⟨aC (fun h=>h2 (h.1 k (by omega))),rfl⟩
 ·obtain rfl:k=r.coef.length:=by omega
  by_cases h2:iB r.const
  ·have hw:=xq r.const
   rw[decide_eq_true h2] at hw
   (refine oP (hw) ?_;conv=>whnf)
   exact⟨bk ⟨ha,h2⟩,rfl⟩
  ·have hw:=xq r.const
   rw[decide_eq_false h2] at hw
   (refine oP (hw) ?_;conv=>whnf)
   exact⟨aC (fun h=>h2 h.2),rfl⟩
theorem HW {s:dN} (h:s.vars<0\/96<s.vars):fH s=1:=by unfold fH;rw[if_pos h]
theorem HX {s:dN} (h:¬uK s):fH s=1:=by
 unfold fH
 by_cases h0:s.vars<0\/96<s.vars
 ·rw[if_pos h0]
 ·rw[if_neg h0,if_pos h]
theorem HY {s:dN} (h0:¬(s.vars<0\/96<s.vars)) (h1:uK s) (h:192<s.rows.length):fH s=4:=by unfold fH;rw[if_neg h0,if_neg (fun x=>x h1),if_pos h]
theorem HZ {s:dN} (h0:¬(s.vars<0\/96<s.vars)) (h1:uK s) (h2:¬EP s.rows):fH s=4:=by
 unfold fH
 rw[if_neg h0,if_neg (fun x=>x h1)]
 by_cases h3:192<s.rows.length
 ·rw[if_pos h3]
 ·rw[if_neg h3,if_pos h2]
theorem vQ (s:dN) (hs:PN s):ab Tryz.prog 56 [.agg (ro s)] (fun u=>u= .int .i64 (fH s)):=by
 have hs1:=hs.1
 refine ab.intro ae ag Tryz.func56 rfl (by decide) ?_;(conv=>whnf)
 refine ar rfl ?_
 conv=>whnf
 refine ai ?_ ?_<;>(intro h;conv=>whnf)
 ·exact⟨x6 (HW (.inl h)).symm,rfl⟩
 refine ai (fun h'=>?_) (fun h'=>?_)<;>conv=>whnf
 ·exact⟨x6 (HW (.inr h')).symm,rfl⟩
 have h0:¬(s.vars<0\/96<s.vars):=by omega
 refine a8.loopF ae ag (fun k:Nat=>k<=s.rows.length/\∀j,j<k->((s.rows.getD j av).coef.length:Int)=s.vars) (fun k=>[(18, .int .i64 (k:Int))]) (fun _=>[]) (fun k=>s.rows.length-k) 0 ⟨Nat.zero_le _,fun j hj=>absurd hj (Nat.not_lt_zero _)⟩ ?_;conv=>whnf
 refine⟨sI,?_⟩
 rintro k ⟨hk,ha⟩
 conv=>whnf
 refine ai ?_ ?_<;>(intro h1;conv=>whnf)
 ·refine nI ?_
  rw[tN]
  conv=>whnf
  have hc:=hs.2 k (by omega)
  refine ai ?_ ?_<;>(intro h2;conv=>whnf)
  ·exact⟨x6 (HX fun hw=>h2 (hw k (by omega))).symm,rfl⟩
  ·repeat' ((first|refine nI ?_|refine aI ?_|refine uI ?_|refine vI ?_|refine dI ?_|refine dR ?_|refine dP ?_|refine ar rfl ?_|refine pI _ rfl ?_|refine an _ rfl ?_|refine tI ?_|refine fI ?_|refine ai (fun _=>?_) (fun _=>?_))<;>conv=>whnf)
   refine⟨k+1,sI,⟨by omega,fun j hj=>?_⟩,by dsimp only;omega⟩
   by_cases e:j=k
   ·subst e;exact Classical.not_not.1 h2
   ·exact ha j (by omega)
 ·obtain rfl:k=s.rows.length:=by omega
  have hw:uK s:=ha
  refine ai ?_ ?_<;>(intro h2;conv=>whnf)
  ·exact⟨x6 (HY h0 hw (by omega)).symm,rfl⟩
  refine a8.loopF ae ag (fun k:Nat=>k<=s.rows.length/\∀j,j<k->lz (s.rows.getD j av)) (fun k=>[(36, .int .i64 (k:Int))]) (fun _=>[]) (fun k=>s.rows.length-k) 0 ⟨Nat.zero_le _,fun j hj=>absurd hj (Nat.not_lt_zero _)⟩ ?_;conv=>whnf
  refine⟨sI,?_⟩
  rintro k ⟨hk,hb⟩
  conv=>whnf
  refine ai ?_ ?_<;>(intro h1;conv=>whnf)
  ·refine nI ?_
   rw[tN]
   conv=>whnf
   have hc:=hs.2 k (by omega)
   refine dC (OB (s.rows.getD k av) hc) (fun _=>?_) (fun _=>?_)<;>(conv=>whnf)
   ·rename_i h3
    repeat' ((first|refine nI ?_|refine aI ?_|refine uI ?_|refine vI ?_|refine dI ?_|refine dR ?_|refine dP ?_|refine ar rfl ?_|refine pI _ rfl ?_|refine an _ rfl ?_|refine tI ?_|refine fI ?_|refine ai (fun _=>?_) (fun _=>?_))<;>conv=>whnf)
    refine⟨k+1,sI,⟨by omega,fun j hj=>?_⟩,by dsimp only;omega⟩
    by_cases e:j=k
    ·subst e;exact h3
    ·exact hb j (by omega)
   ·rename_i h3
    exact⟨x6 (HZ h0 hw (fun hh=>h3 (hh k (by omega)))).symm,rfl⟩
  ·obtain rfl:k=s.rows.length:=by omega
   exact⟨x6 (xb (by omega) hw (by omega) hb).symm,rfl⟩
theorem pJ (x:List Int) (hl:x.length<=140737488355328):ab Tryz.prog 86 [.sl 0 ak x] (fun u=>u= .bool (decide (jz x))):=by
 refine ab.intro ae ag Tryz.func86 rfl (by decide) ?_;(conv=>whnf)
 refine a8.loopF ae ag (fun k:Nat=>k<=x.length/\∀j,j<k->0<=x.getD j 0/\x.getD j 0<=1048576) (fun k=>[(7, .int .i64 (k:Int))]) (fun _=>[]) (fun k=>x.length-k) 0 ⟨Nat.zero_le _,fun j hj=>absurd hj (Nat.not_lt_zero _)⟩ ?_;conv=>whnf
 refine⟨sI,?_⟩
 rintro k ⟨hk,ha⟩
 conv=>whnf
 refine ai ?_ ?_<;>(intro h1;conv=>whnf)
 ·refine nI ?_
  rw[tN]
  conv=>whnf
  refine ai ?_ ?_<;>(intro h2;conv=>whnf)
  ·exact⟨aC (fun h=>by have:=h k (by omega);omega),rfl⟩
  refine ai ?_ ?_<;>(intro h3;conv=>whnf)
  ·exact⟨aC (fun h=>by have:=h k (by omega);omega),rfl⟩
  repeat' ((first|refine nI ?_|refine aI ?_|refine uI ?_|refine vI ?_|refine dI ?_|refine dR ?_|refine dP ?_|refine ar rfl ?_|refine pI _ rfl ?_|refine an _ rfl ?_|refine tI ?_|refine fI ?_|refine ai (fun _=>?_) (fun _=>?_))<;>conv=>whnf)
  refine⟨k+1,sI,⟨by omega,fun j hj=>?_⟩,by dsimp only;omega⟩
  by_cases e:j=k
  ·subst e;omega
  ·exact ha j (by omega)
 ·obtain rfl:k=x.length:=by omega
  exact⟨bk ha,rfl⟩
def E4 (r:br) (x:List Int):Prop:=r.coef.length=x.length/\x.length<=96/\jz x
instance (r:br) (x:List Int):Decidable (E4 r x):=inferInstanceAs (Decidable (_/\_))
def BI (r:br) (x:List Int):Int×Int:=if E4 r x then(if lz r then(kC r x,0) else(0,4)) else(0,1)
def QB (a:Int×Int):AV:=.tup [.int .i64 a.1, .int .i64 a.2]
theorem BJ {r:br} {x:List Int} (h:¬E4 r x):BI r x=(0,1):=by unfold BI;rw[if_neg h]
theorem OC {r:br} {x:List Int} (h:E4 r x) (h2:¬lz r):BI r x=(0,4):=by unfold BI;rw[if_pos h,if_neg h2]
theorem H0 {r:br} {x:List Int} (h:E4 r x) (h2:lz r):BI r x=(kC r x,0):=by unfold BI;rw[if_pos h,if_pos h2]
theorem OD (r:br) (x:List Int) (hr:r.coef.length<=140737488355328) (hx:x.length<=140737488355328):
  ab Tryz.prog 87 [.agg (aE r), .sl 0 ak x] (fun u=>u=QB (BI r x)):=by
 refine ab.intro ae ag Tryz.func87 rfl (by decide) ?_;(conv=>whnf)
 refine ar rfl ?_
 conv=>whnf
 refine ai ?_ ?_<;>(intro h;conv=>whnf)
 ·exact⟨by rw[BJ (fun hh=>h (by have:=hh.1;omega))];rfl,rfl⟩
 refine ai (fun h'=>?_) (fun h'=>?_)<;>conv=>whnf
 ·exact⟨by rw[BJ (fun hh=>by have:=hh.2.1;omega)];rfl,rfl⟩
 refine dC (pJ x hx) (fun _=>?_) (fun _=>?_)<;>(conv=>whnf)
 case refine_2=>rename_i h2;exact⟨by rw[BJ (fun hh=>h2 hh.2.2)];rfl,rfl⟩
 rename_i h2
 have hp:E4 r x:=⟨by omega,by omega,h2⟩
 refine dC (OB r hr) (fun _=>?_) (fun _=>?_)<;>(conv=>whnf)
 case refine_2=>rename_i h3;exact⟨by rw[OC hp h3];rfl,rfl⟩
 rename_i h3
 refine a8.loopF ae ag (fun k:Nat=>k<=r.coef.length) (fun k=>[(33, .int .i64 (k:Int)),(6, .int .i64 (r.const+dw r.coef x k))]) (fun _=>[]) (fun k=>r.coef.length-k) 0 (Nat.zero_le _) ?_;conv=>whnf
 refine⟨?_,?_⟩
 ·show bd _ _ _ _ _
  rw[dw,Int.add_zero]
  exact sI
 rintro k hk
 have hc:=h3.2
 unfold iB at hc
 have hb:=Bv h3.1 h2 (by omega) k (by omega)
 conv=>whnf
 refine ai ?_ ?_<;>(intro h1;conv=>whnf)
 ·refine nI ?_
  rw[tN]
  conv=>whnf
  refine nI ?_
  rw[tN]
  conv=>whnf
  have hm:=Bu (h3.1 k (by omega)) (h2 k (by omega))
  refine aI ?_
  conv=>whnf
  refine aI ?_
  conv=>whnf
  repeat' ((first|refine nI ?_|refine aI ?_|refine uI ?_|refine vI ?_|refine dI ?_|refine dR ?_|refine dP ?_|refine ar rfl ?_|refine pI _ rfl ?_|refine an _ rfl ?_|refine tI ?_|refine fI ?_|refine ai (fun _=>?_) (fun _=>?_))<;>conv=>whnf)
  refine⟨k+1,?_,by omega,by dsimp only;omega⟩
  dsimp only
  rw[dw,<-Int.add_assoc]
  exact sI
 ·obtain rfl:k=r.coef.length:=by omega
  exact⟨by rw[H0 hp h3];rfl,rfl⟩
theorem BK (s:dN) (x:List Int) (hs:PN s) (hx:x.length<=140737488355328):ab Tryz.prog 27 [.agg (ro s), .sl 0 ak x] (fun u=>u= .bool (decide (pB s x))):=by
 refine ab.intro ae ag Tryz.func27 rfl (by decide) ?_;(conv=>whnf)
 refine ar rfl ?_
 conv=>whnf
 (refine oP (vQ s hs) ?_;conv=>whnf)
 refine ai ?_ ?_<;>(intro h;conv=>whnf)
 ·exact⟨aC (fun hh=>h hh.1),rfl⟩
 have h0:fH s=0:=Classical.not_not.1 h
 obtain⟨a1,a2,a3,a4⟩:=lA h0
 refine ai (fun h'=>?_) (fun h'=>?_)<;>conv=>whnf
 ·exact⟨aC (fun hh=>h' hh.2.1),rfl⟩
 have hl:(x.length:Int)=s.vars:=Classical.not_not.1 h'
 refine dC (pJ x hx) (fun _=>?_) (fun _=>?_)<;>(conv=>whnf)
 case refine_2=>rename_i h2;exact⟨aC (fun hh=>h2 hh.2.2.1),rfl⟩
 rename_i h2
 refine a8.loopF ae ag (fun k:Nat=>k<=s.rows.length/\∀j,j<k->0<=kC (s.rows.getD j av) x) (fun k=>[(27, .int .i64 (k:Int))]) (fun _=>[]) (fun k=>s.rows.length-k) 0 ⟨Nat.zero_le _,fun j hj=>absurd hj (Nat.not_lt_zero _)⟩ ?_;conv=>whnf
 refine⟨sI,?_⟩
 rintro k ⟨hk,ha⟩
 conv=>whnf
 refine ai ?_ ?_<;>(intro h1;conv=>whnf)
 ·refine nI ?_
  rw[tN]
  conv=>whnf
  have hc:=hs.2 k (by omega)
  have hw:=a2 k (by omega)
  have hv:=H0 (r:=s.rows.getD k av) (x:=x) ⟨by omega,by omega,h2⟩ (a4 k (by omega))
  have hV:=OD (s.rows.getD k av) x hc hx
  rw[hv] at hV
  (refine oP (hV) ?_;conv=>whnf)
  refine fI ?_
  conv=>whnf
  refine ai ?_ ?_<;>(intro h3;conv=>whnf)
  ·exact⟨aC (fun hh=>by have:=hh.2.2.2 k (by omega);omega),rfl⟩
  repeat' ((first|refine nI ?_|refine aI ?_|refine uI ?_|refine vI ?_|refine dI ?_|refine dR ?_|refine dP ?_|refine ar rfl ?_|refine pI _ rfl ?_|refine an _ rfl ?_|refine tI ?_|refine fI ?_|refine ai (fun _=>?_) (fun _=>?_))<;>conv=>whnf)
  refine⟨k+1,sI,⟨by omega,fun j hj=>?_⟩,by dsimp only;omega⟩
  by_cases e:j=k
  ·subst e;omega
  ·exact ha j (by omega)
 ·obtain rfl:k=s.rows.length:=by omega
  exact⟨bk ⟨h0,hl,h2,ha⟩,rfl⟩
set_option maxHeartbeats 32000000
theorem pK (n lo hi:Int):ab Tryz.prog 138 [.int .i64 n, .int .i64 lo, .int .i64 hi] (fun u=>u= .bool (decide (lo<=n/\n<=hi))):=by
 refine ab.intro ae ag Tryz.func138 rfl (by decide) ?_;(conv=>whnf)
 refine ai ?_ ?_<;>(intro h;conv=>whnf)
 ·refine ai ?_ ?_<;>(intro h2;conv=>whnf)
  ·exact⟨bk ⟨by omega,by omega⟩,rfl⟩
  ·exact⟨aC (fun hh=>by omega),rfl⟩
 ·exact⟨aC (fun hh=>by omega),rfl⟩
theorem OE (r:br) (hl:r.coef.length<=140737488355328):ab Tryz.prog 185 [.agg (aE r)] (fun u=>u= .bool (decide (lz r))):=by
 refine ab.intro ae ag Tryz.func185 rfl (by decide) ?_;(conv=>whnf)
 refine ar rfl ?_
 conv=>whnf
 refine a8.loopF ae ag (fun k:Nat=>k<=r.coef.length/\∀j,j<k->iB (r.coef.getD j 0)) (fun k=>[(3, .int .i64 (k:Int))]) (fun _=>[]) (fun k=>r.coef.length-k) 0 ⟨Nat.zero_le _,fun j hj=>absurd hj (Nat.not_lt_zero _)⟩ ?_;conv=>whnf
 refine⟨sI,?_⟩
 rintro k ⟨hk,ha⟩
 conv=>whnf
 refine ai ?_ ?_<;>(intro h1;conv=>whnf)
 ·refine nI ?_
  rw[tN]
  conv=>whnf
  refine dC (pK (r.coef.getD k 0) (-68719476736) 68719476736) (fun _=>?_) (fun _=>?_)<;>(conv=>whnf)
  ·rename_i h2
   repeat' ((first|refine nI ?_|refine aI ?_|refine uI ?_|refine vI ?_|refine dI ?_|refine dR ?_|refine dP ?_|refine ar rfl ?_|refine pI _ rfl ?_|refine an _ rfl ?_|refine tI ?_|refine fI ?_|refine ai (fun _=>?_) (fun _=>?_))<;>conv=>whnf)
   refine⟨k+1,sI,⟨by omega,fun j hj=>?_⟩,by dsimp only;omega⟩
   by_cases e:j=k
   ·subst e;exact h2
   ·exact ha j (by omega)
  ·rename_i h2
   exact⟨aC (fun h=>h2 (h.1 k (by omega))),rfl⟩
 ·obtain rfl:k=r.coef.length:=by omega
  refine dC (pK r.const (-68719476736) 68719476736) (fun _=>?_) (fun _=>?_)<;>(conv=>whnf)
  ·rename_i h2
   exact⟨bk ⟨ha,h2⟩,rfl⟩
  ·rename_i h2
   exact⟨aC (fun h=>h2 h.2),rfl⟩
theorem E5 (s:dN) (hs:PN s):ab Tryz.prog 96 [.agg (ro s)] (fun u=>u= .int .i64 (fH s)):=by
 have hs1:=hs.1
 refine ab.intro ae ag Tryz.func96 rfl (by decide) ?_;(conv=>whnf)
 refine ar rfl ?_
 conv=>whnf
 refine dC (pK s.vars 0 96) (fun _=>?_) (fun _=>?_)<;>(conv=>whnf)
 rotate_left
 ·rename_i h
  exact⟨x6 (by unfold fH;rw[if_pos (by omega)]),rfl⟩
 rename_i h
 have h0:¬(s.vars<0\/96<s.vars):=by omega
 refine a8.loopF ae ag (fun k:Nat=>k<=s.rows.length/\∀j,j<k->((s.rows.getD j av).coef.length:Int)=s.vars) (fun k=>[(3, .int .i64 (k:Int))]) (fun _=>[]) (fun k=>s.rows.length-k) 0 ⟨Nat.zero_le _,fun j hj=>absurd hj (Nat.not_lt_zero _)⟩ ?_;conv=>whnf
 refine⟨sI,?_⟩
 rintro k ⟨hk,ha⟩
 conv=>whnf
 refine ai ?_ ?_<;>(intro h1;conv=>whnf)
 ·have hc:=hs.2 k (by omega)
  refine dI ?_
  conv=>whnf
  refine nI ?_
  rw[tN]
  conv=>whnf
  refine ai ?_ ?_<;>(intro h2;conv=>whnf)
  ·exact⟨x6 (HX fun hw=>h2 (hw k (by omega))).symm,rfl⟩
  ·repeat' ((first|refine nI ?_|refine aI ?_|refine uI ?_|refine vI ?_|refine dI ?_|refine dR ?_|refine dP ?_|refine ar rfl ?_|refine pI _ rfl ?_|refine an _ rfl ?_|refine tI ?_|refine fI ?_|refine ai (fun _=>?_) (fun _=>?_))<;>conv=>whnf)
   refine⟨k+1,sI,⟨by omega,fun j hj=>?_⟩,by dsimp only;omega⟩
   by_cases e:j=k
   ·subst e;exact Classical.not_not.1 h2
   ·exact ha j (by omega)
 ·obtain rfl:k=s.rows.length:=by omega
  have hw:uK s:=ha
  refine ai ?_ ?_<;>(intro h2;conv=>whnf)
  ·exact⟨x6 (HY h0 hw (by omega)).symm,rfl⟩
  refine a8.loopF ae ag (fun k:Nat=>k<=s.rows.length/\∀j,j<k->lz (s.rows.getD j av)) (fun k=>[(4, .int .i64 (k:Int))]) (fun _=>[]) (fun k=>s.rows.length-k) 0 ⟨Nat.zero_le _,fun j hj=>absurd hj (Nat.not_lt_zero _)⟩ ?_;conv=>whnf
  refine⟨sI,?_⟩
  rintro k ⟨hk,hb⟩
  conv=>whnf
  refine ai ?_ ?_<;>(intro h1;conv=>whnf)
  ·refine nI ?_
   rw[tN]
   conv=>whnf
   have hc:=hs.2 k (by omega)
   refine dC (OE (s.rows.getD k av) hc) (fun _=>?_) (fun _=>?_)<;>(conv=>whnf)
   ·rename_i h3
    repeat' ((first|refine nI ?_|refine aI ?_|refine uI ?_|refine vI ?_|refine dI ?_|refine dR ?_|refine dP ?_|refine ar rfl ?_|refine pI _ rfl ?_|refine an _ rfl ?_|refine tI ?_|refine fI ?_|refine ai (fun _=>?_) (fun _=>?_))<;>conv=>whnf)
    refine⟨k+1,sI,⟨by omega,fun j hj=>?_⟩,by dsimp only;omega⟩
    by_cases e:j=k
    ·subst e;exact h3
    ·exact hb j (by omega)
   ·rename_i h3
    exact⟨x6 (HZ h0 hw (fun hh=>h3 (hh k (by omega)))).symm,rfl⟩
  ·obtain rfl:k=s.rows.length:=by omega
   exact⟨x6 (xb (by omega) hw (by omega) hb).symm,rfl⟩
end Go.Proofs.YtekmminpfhacpaaGreatDoor
