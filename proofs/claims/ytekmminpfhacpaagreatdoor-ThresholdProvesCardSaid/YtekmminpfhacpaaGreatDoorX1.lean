import Derived.Test.YtekmminpfhacpaaGreatDoorFuA
set_option linter.unusedVariables false
set_option linter.unusedSimpArgs false
namespace Go.Proofs.YtekmminpfhacpaaGreatDoor
set_option maxRecDepth 100000
set_option maxHeartbeats 8000000
structure kR where
 src:List Int
 mult:List Int
 div:Int
structure dW where
 lines:List kR
 var:Int
 at_:Int
 left:Int
 right:Int
def lA:kR:=⟨[],[],0⟩
def an:dW:=⟨[],0,0,0,0⟩
def t3 (d:kR):List AV:=[.sl 0 al d.src, .sl 0 al d.mult, .int .i64 d.div]
def aK (n:dW):List AV:=[.sl lA t3 n.lines, .int .i64 n.var, .int .i64 n.at_, .int .i64 n.left, .int .i64 n.right]
def fi (vars:Nat) (rows:List aV) (d:kR):Nat->List Int
 |0=>List.replicate vars 0
 |i+1=>
  if d.src.getD i 0<0 then(fi vars rows d i).set (-1-d.src.getD i 0).toNat ((fi vars rows d i).getD (-1-d.src.getD i 0).toNat 0+d.mult.getD i 0)
  else(List.range vars).map fun j=>(fi vars rows d i).getD j 0+d.mult.getD i 0*(rows.getD (d.src.getD i 0).toNat ar).coef.getD j 0
def nG (rows:List aV) (d:kR):Nat->Int
 |0=>0
 |i+1=>if d.src.getD i 0<0 then nG rows d i else nG rows d i+d.mult.getD i 0*(rows.getD (d.src.getD i 0).toNat ar).const
def mP (vars n:Nat) (d:kR) (i:Nat):Prop:=(-(vars:Int)<=d.src.getD i 0/\d.src.getD i 0<n)/\1<=d.mult.getD i 0/\d.mult.getD i 0<=65536
instance (vars n:Nat) (d:kR) (i:Nat):Decidable (mP vars n d i):=inferInstanceAs (Decidable (_/\_))
def BG (d:kR):Prop:=d.src.length=d.mult.length/\(1<=d.src.length/\d.src.length<=64)/\1<=d.div/\d.div<=68719476736
instance (d:kR):Decidable (BG d):=inferInstanceAs (Decidable (_/\_))
def Ao (a d:Int):Int:=if a.tmod d<0 then a.tdiv d-1 else a.tdiv d
def j0 (vars:Nat) (rows:List aV) (d:kR):aV:=⟨(fi vars rows d d.src.length).map (·.tdiv d.div),Ao (nG rows d d.src.length) d.div⟩
def xv (vars:Nat) (rows:List aV) (d:kR):Prop:=
 BG d/\(∀i,i<d.src.length->mP vars rows.length d i)/\(∀j,j<vars->((fi vars rows d d.src.length).getD j 0).tmod d.div=0)/\mH (j0 vars rows d)
instance (vars:Nat) (rows:List aV) (d:kR):Decidable (xv vars rows d):=inferInstanceAs (Decidable (_/\_))
def kC (vars:Nat) (rows:List aV):Prop:=∀j,j<rows.length->(rows.getD j ar).coef.length=vars/\mH (rows.getD j ar)
theorem j5 (vars:Nat) (rows:List aV) (d:kR):∀i,(fi vars rows d i).length=vars
 |0=>by simp[fi]
 |i+1=>by
  rw[fi]
  split
  ·rw[List.length_set,j5 vars rows d i]
  ·simp
theorem qE {a b:Int} (ha:ia a) (hb:1<=b/\b<=65536):-4503599627370496<=b*a/\b*a<=4503599627370496:=by
 have h1:b*a<=b*68719476736:=Int.mul_le_mul_of_nonneg_left ha.2 (by omega)
 have h2:b*-68719476736<=b*a:=Int.mul_le_mul_of_nonneg_left ha.1 (by omega)
 omega
theorem G' {vars:Nat} {rows:List aV} {d:kR} (hr:kC vars rows):∀(i:Nat),(∀k,k<i->mP vars rows.length d k)->∀j,-4503599627370496*(i:Int)<=(fi vars rows d i).getD j 0/\(fi vars rows d i).getD j 0<=4503599627370496*(i:Int)
 |0,_,j=>by
  have:(fi vars rows d 0).getD j 0=0:=by
   rw[fi,gD,List.getElem?_replicate];split<;>rfl
  rw[this];simp
 |i+1,h,j=>by
  have ih:=G' hr i (fun k hk=>h k (by omega))
  have ht:=h i (by omega)
  rw[fi]
  split
  ·rename_i hs
   by_cases e:(-1-d.src.getD i 0).toNat=j
   ·by_cases hj:j<(fi vars rows d i).length
    ·subst e
     rw[gD,List.getElem?_set_self hj]
     have:=ih (-1-d.src.getD i 0).toNat
     have:=ht.2
     simp only[Option.getD_some]
     omega
    ·rw[gD,List.getElem?_eq_none (by simp only[List.length_set];omega)]
     simp only[Option.getD_none]
     omega
   ·rw[gD,List.getElem?_set_ne e,<-gD]
    have:=ih j
    omega
  ·rename_i hs
   by_cases hj:j<vars
   ·rw[ap 0 (by simpa using hj),List.getElem_map,List.getElem_range]
    have a:=ih j
    have hrow:=hr (d.src.getD i 0).toNat (by have:=ht.1;omega)
    have b:ia ((rows.getD (d.src.getD i 0).toNat ar).coef.getD j 0):=hrow.2.1 j (by omega)
    have c:=qE b ht.2
    omega
   ·rw[gD,List.getElem?_eq_none (by simpa using hj)]
    simp only[Option.getD_none]
    omega
theorem Ha {vars:Nat} {rows:List aV} {d:kR} (hr:kC vars rows):∀(i:Nat),(∀k,k<i->mP vars rows.length d k)->-4503599627370496*(i:Int)<=nG rows d i/\nG rows d i<=4503599627370496*(i:Int)
 |0,_=>by simp[nG]
 |i+1,h=>by
  have ih:=Ha hr i (fun k hk=>h k (by omega))
  have ht:=h i (by omega)
  rw[nG]
  split
  ·omega
  ·have hrow:=hr (d.src.getD i 0).toNat (by have:=ht.1;omega)
   have c:=qE hrow.2.2 ht.2
   omega
theorem CX {vars:Nat} {rows:List aV} {d:kR} (h:xv vars rows d):(j0 vars rows d).coef.length=vars/\mH (j0 vars rows d):=
 ⟨by simp[j0,j5],h.2.2.2⟩
def lB (vars n i:Nat) (x:dW):Prop:=x.var=-1\/((0<=x.var/\x.var<vars)/\(0<=x.at_/\x.at_<=1048576)/\((i:Int)<x.left/\x.left<n)/\((i:Int)<x.right/\x.right<n))
instance (vars n i:Nat) (x:dW):Decidable (lB vars n i x):=inferInstanceAs (Decidable (_\/_))
def gh (nodes:List dW) (c:Int):Nat->Int
 |0=>0
 |k+1=>gh nodes c k+(if(nodes.getD k an).var=-1 then 0 else(if(nodes.getD k an).left=c then 1 else 0)+(if(nodes.getD k an).right=c then 1 else 0))
def d7 (nodes:List dW):Nat->Nat
 |0=>0
 |k+1=>d7 nodes k+(nodes.getD k an).lines.length
def BH (vars:Nat) (nodes:List dW):Prop:=
 (1<=nodes.length/\nodes.length<=400)/\(∀i,i<nodes.length->lB vars nodes.length i (nodes.getD i an))/\(∀i,i<nodes.length->0<i->gh nodes i nodes.length=1)/\d7 nodes nodes.length<=400
instance (vars:Nat) (nodes:List dW):Decidable (BH vars nodes):=inferInstanceAs (Decidable (_/\_))
theorem xw (nodes:List dW) (c:Int):∀k,0<=gh nodes c k/\gh nodes c k<=2*(k:Int)
 |0=>by simp[gh]
 |k+1=>by
  have:=xw nodes c k
  rw[gh]
  (repeat' split)<;>omega
theorem qF (nodes:List dW) {k m:Nat} (h:k<=m):d7 nodes k<=d7 nodes m:=by
 induction m with
 |zero=>rw[Nat.le_zero.1 h];exact Nat.le_refl _
 |succ m ih=>
  by_cases e:k=m+1
  ·rw[e];exact Nat.le_refl _
  ·have:=ih (by omega);rw[d7];omega
theorem xx (nodes:List dW) {i:Nat} (h:i<nodes.length):(nodes.getD i an).lines.length<=d7 nodes nodes.length:=by
 have:=qF nodes (show i+1<=nodes.length by omega)
 rw[d7] at this
 omega
def t4 (r:aV):Prop:=(∀j,j<r.coef.length->r.coef.getD j 0<=0)/\r.const<0
instance (r:aV):Decidable (t4 r):=inferInstanceAs (Decidable (_/\_))
def kD (l:List aV):Prop:=∃j,j<l.length/\t4 (l.getD j ar)
instance (l:List aV):Decidable (kD l):=inferInstanceAs (Decidable (∃j,j<l.length/\_))
def oH (vars:Nat) (rows:List aV) (l:List kR):Nat->Option (List aV)
 |0=>some rows
 |k+1=>match oH vars rows l k with
  |none=>none
  |some a=>if xv vars a (l.getD k lA) then some (a++[j0 vars a (l.getD k lA)]) else none
def gi (vars:Nat) (v k:Int):aV:=⟨(List.replicate vars 0).set v.toNat (-1),k⟩
def gj (vars:Nat) (v k:Int):aV:=⟨(List.replicate vars 0).set v.toNat 1,-k⟩
def jL (vars:Nat) (nodes:List dW):Nat->Nat->List aV->Bool
 |0,_,_=>false
 |m+1,i,rows=>match oH vars rows (nodes.getD i an).lines (nodes.getD i an).lines.length with
  |none=>false
  |some a=>if(nodes.getD i an).var=-1 then decide (kD a)
   else jL vars nodes m (nodes.getD i an).left.toNat (a++[gi vars (nodes.getD i an).var (nodes.getD i an).at_])&&jL vars nodes m (nodes.getD i an).right.toNat (a++[gj vars (nodes.getD i an).var ((nodes.getD i an).at_+1)])
def qG (s:dF) (nodes:List dW):Prop:=eZ s=0/\BH s.vars.toNat nodes/\jL s.vars.toNat nodes nodes.length 0 s.rows=true
instance (s:dF) (nodes:List dW):Decidable (qG s nodes):=inferInstanceAs (Decidable (_/\_))
theorem ip {vars:Nat} {rows:List aV} {r:aV} (h:kC vars rows) (hr:r.coef.length=vars/\mH r):kC vars (rows++[r]):=by
 intro j hj
 rw[List.length_append] at hj
 by_cases e:j<rows.length
 ·rw[gD,List.getElem?_append_left e,<-gD];exact h j e
 ·have:j=rows.length:=by simp only[List.length_cons,List.length_nil] at hj;omega
  subst this
  rw[gD,List.getElem?_append_right (Nat.le_refl _),Nat.sub_self]
  exact hr
theorem pD {vars:Nat} {l:List kR} {rows:List aV} (h:kC vars rows):∀{k:Nat} {a:List aV},oH vars rows l k=some a->kC vars a/\a.length=rows.length+k
 |0,a,e=>by cases e;exact⟨h,rfl⟩
 |k+1,a,e=>by
  rw[oH] at e
  cases hk:oH vars rows l k with
  |none=>rw[hk] at e;cases e
  |some b=>
   rw[hk] at e
   dsimp only at e
   obtain⟨h1,h2⟩:=pD h hk
   split at e
   ·rename_i hd
    cases e
    exact⟨ip h1 (CX hd),by rw[List.length_append,h2];simp only[List.length_cons,List.length_nil];omega⟩
   ·cases e
theorem j6 {vars:Nat} {v k x:Int} (hx:x=1\/x=-1) (hk:ia k):(⟨(List.replicate vars 0).set v.toNat x,k⟩:aV).coef.length=vars/\mH ⟨(List.replicate vars 0).set v.toNat x,k⟩:=by
 refine⟨by simp,fun j hj=>?_,hk⟩
 dsimp only at hj⊢
 rw[gD]
 by_cases e:v.toNat=j
 ·subst e
  rw[List.getElem?_set_self (by simpa using hj)]
  rcases hx with rfl|rfl<;>decide
 ·rw[List.getElem?_set_ne e,List.getElem?_replicate]
  split<;>decide
theorem r8 {s:dF} (h:eZ s=0):kC s.vars.toNat s.rows:=by
 obtain⟨h1,h2,_,h4⟩:=lw h
 intro j hj
 have:=h2 j hj
 exact⟨by omega,h4 j hj⟩
theorem CY {c x:List Int} {v:Nat} {a:Int} (hv:v<c.length):∀k,gO (c.set v a) x k=gO c x k+if v<k then(a-c.getD v 0)*x.getD v 0 else 0
 |0=>by simp[gO]
 |k+1=>by
  rw[gO,gO,CY hv k]
  by_cases e:v=k
  ·subst e
   have:(c.set v a).getD v 0=a:=by
    rw[gD,List.getElem?_set_self hv];rfl
   rw[this,if_neg (by omega),if_pos (by omega),Int.sub_mul]
   omega
  ·have:(c.set v a).getD k 0=c.getD k 0:=by
    rw[gD,List.getElem?_set_ne e,<-gD]
   rw[this]
   by_cases h:v<k
   ·rw[if_pos h,if_pos (by omega)];omega
   ·rw[if_neg h,if_neg (by omega)];omega
theorem CZ {c r x:List Int} {k:Int} {n:Nat}:∀m,m<=n->gO ((List.range n).map fun j=>c.getD j 0+k*r.getD j 0) x m=gO c x m+k*gO r x m
 |0,_=>by simp[gO]
 |m+1,h=>by
  rw[gO,gO,gO,CZ m (by omega),ap 0 (by simp;omega),List.getElem_map,List.getElem_range,Int.add_mul,Int.mul_add,Int.mul_assoc]
  omega
theorem zB (x:List Int) (n:Nat):∀k,gO (List.replicate n 0) x k=0
 |0=>rfl
 |k+1=>by
  rw[gO,zB x n k]
  have:(List.replicate n (0:Int)).getD k 0=0:=by
   rw[gD,List.getElem?_replicate];split<;>rfl
  rw[this];simp
structure P6 (vars:Nat) (x:List Int) (rows:List aV):Prop where
 len:x.length=vars
 pos:∀j,0<=x.getD j 0
 sat:∀j,j<rows.length->0<=rG (rows.getD j ar) x
theorem P6.app {vars:Nat} {x:List Int} {rows:List aV} {r:aV} (h:P6 vars x rows) (hr:0<=rG r x):P6 vars x (rows++[r]):=by
 refine⟨h.len,h.pos,fun j hj=>?_⟩
 rw[List.length_append] at hj
 by_cases e:j<rows.length
 ·rw[gD,List.getElem?_append_left e,<-gD];exact h.sat j e
 ·have:j=rows.length:=by simp only[List.length_cons,List.length_nil] at hj;omega
  subst this
  rw[gD,List.getElem?_append_right (Nat.le_refl _),Nat.sub_self]
  exact hr
set_option maxHeartbeats 16000000
def NE (s:dF):Prop:=s.rows.length<=140737488355328/\∀j,j<s.rows.length->(s.rows.getD j ar).coef.length<=140737488355328
theorem qH {s:dF} (h:eZ s=0):NE s:=by
 obtain⟨h1,h2,h3,_⟩:=lw h
 exact⟨by omega,fun j hj=>by have:=h2 j hj;omega⟩
theorem xy (n:Int):ah Tryz.prog 212 [.int .i64 n] (fun u=>u= .bool (decide (ia n))):=by
 refine ah.intro ab ac Tryz.func212 rfl (by decide) ?_;(conv=>whnf)
 refine ae ?_ ?_<;>(intro h;conv=>whnf)
 ·refine ae ?_ ?_<;>(intro h2;conv=>whnf)
  ·exact⟨bE ⟨h,h2⟩,rfl⟩
  ·exact⟨aA (fun hh=>h2 hh.2),rfl⟩
 ·exact⟨aA (fun hh=>h hh.1),rfl⟩
theorem OB (r:aV) (hl:r.coef.length<=140737488355328):ah Tryz.prog 127 [.agg (aw r)] (fun u=>u= .bool (decide (mH r))):=by
 refine ah.intro ab ac Tryz.func127 rfl (by decide) ?_;(conv=>whnf)
 refine au rfl ?_
 conv=>whnf
 refine aJ.loopF ab ac (fun k:Nat=>k<=r.coef.length/\∀j,j<k->ia (r.coef.getD j 0)) (fun k=>[(8, .int .i64 (k:Int))]) (fun _=>[]) (fun k=>r.coef.length-k) 0 ⟨Nat.zero_le _,fun j hj=>absurd hj (Nat.not_lt_zero _)⟩ ?_;conv=>whnf
 refine⟨sI,?_⟩
 rintro k ⟨hk,ha⟩
 conv=>whnf
 refine ae ?_ ?_<;>(intro h1;conv=>whnf)
 ·refine nI ?_
  rw[tN]
  conv=>whnf
  refine dC (xy (r.coef.getD k 0)) (fun _=>?_) (fun _=>?_)<;>(conv=>whnf)
  ·rename_i h2
   repeat' ((first|refine nI ?_|refine aI ?_|refine uI ?_|refine vI ?_|refine dI ?_|refine dR ?_|refine dP ?_|refine au rfl ?_|refine pI _ rfl ?_|refine ak _ rfl ?_|refine tI ?_|refine fI ?_|refine ae (fun _=>?_) (fun _=>?_))<;>conv=>whnf)
   refine⟨k+1,sI,⟨by omega,fun j hj=>?_⟩,by dsimp only;omega⟩
   by_cases e:j=k
   ·subst e;exact h2
   ·exact ha j (by omega)
  ·rename_i h2
   exact⟨aA (fun h=>h2 (h.1 k (by omega))),rfl⟩
 ·obtain rfl:k=r.coef.length:=by omega
  by_cases h2:ia r.const
  ·have hw:=xy r.const
   rw[decide_eq_true h2] at hw
   (refine oP (hw) ?_;conv=>whnf)
   exact⟨bE ⟨ha,h2⟩,rfl⟩
  ·have hw:=xy r.const
   rw[decide_eq_false h2] at hw
   (refine oP (hw) ?_;conv=>whnf)
   exact⟨aA (fun h=>h2 h.2),rfl⟩
theorem Hb {s:dF} (h:s.vars<0\/96<s.vars):eZ s=1:=by unfold eZ;rw[if_pos h]
theorem Hc {s:dF} (h:¬uQ s):eZ s=1:=by
 unfold eZ
 by_cases h0:s.vars<0\/96<s.vars
 ·rw[if_pos h0]
 ·rw[if_neg h0,if_pos h]
theorem Hd {s:dF} (h0:¬(s.vars<0\/96<s.vars)) (h1:uQ s) (h:192<s.rows.length):eZ s=4:=by unfold eZ;rw[if_neg h0,if_neg (fun x=>x h1),if_pos h]
theorem He {s:dF} (h0:¬(s.vars<0\/96<s.vars)) (h1:uQ s) (h2:¬Eu s.rows):eZ s=4:=by
 unfold eZ
 rw[if_neg h0,if_neg (fun x=>x h1)]
 by_cases h3:192<s.rows.length
 ·rw[if_pos h3]
 ·rw[if_neg h3,if_pos h2]
theorem v5 (s:dF) (hs:NE s):ah Tryz.prog 56 [.agg (mG s)] (fun u=>u= .int .i64 (eZ s)):=by
 have hs1:=hs.1
 refine ah.intro ab ac Tryz.func56 rfl (by decide) ?_;(conv=>whnf)
 refine au rfl ?_
 conv=>whnf
 refine ae ?_ ?_<;>(intro h;conv=>whnf)
 ·exact⟨x8 (Hb (.inl h)).symm,rfl⟩
 refine ae (fun h'=>?_) (fun h'=>?_)<;>conv=>whnf
 ·exact⟨x8 (Hb (.inr h')).symm,rfl⟩
 have h0:¬(s.vars<0\/96<s.vars):=by omega
 refine aJ.loopF ab ac (fun k:Nat=>k<=s.rows.length/\∀j,j<k->((s.rows.getD j ar).coef.length:Int)=s.vars) (fun k=>[(18, .int .i64 (k:Int))]) (fun _=>[]) (fun k=>s.rows.length-k) 0 ⟨Nat.zero_le _,fun j hj=>absurd hj (Nat.not_lt_zero _)⟩ ?_;conv=>whnf
 refine⟨sI,?_⟩
 rintro k ⟨hk,ha⟩
 conv=>whnf
 refine ae ?_ ?_<;>(intro h1;conv=>whnf)
 ·refine nI ?_
  rw[tN]
  conv=>whnf
  have hc:=hs.2 k (by omega)
  refine ae ?_ ?_<;>(intro h2;conv=>whnf)
  ·exact⟨x8 (Hc fun hw=>h2 (hw k (by omega))).symm,rfl⟩
  ·repeat' ((first|refine nI ?_|refine aI ?_|refine uI ?_|refine vI ?_|refine dI ?_|refine dR ?_|refine dP ?_|refine au rfl ?_|refine pI _ rfl ?_|refine ak _ rfl ?_|refine tI ?_|refine fI ?_|refine ae (fun _=>?_) (fun _=>?_))<;>conv=>whnf)
   refine⟨k+1,sI,⟨by omega,fun j hj=>?_⟩,by dsimp only;omega⟩
   by_cases e:j=k
   ·subst e;exact Classical.not_not.1 h2
   ·exact ha j (by omega)
 ·obtain rfl:k=s.rows.length:=by omega
  have hw:uQ s:=ha
  refine ae ?_ ?_<;>(intro h2;conv=>whnf)
  ·exact⟨x8 (Hd h0 hw (by omega)).symm,rfl⟩
  refine aJ.loopF ab ac (fun k:Nat=>k<=s.rows.length/\∀j,j<k->mH (s.rows.getD j ar)) (fun k=>[(36, .int .i64 (k:Int))]) (fun _=>[]) (fun k=>s.rows.length-k) 0 ⟨Nat.zero_le _,fun j hj=>absurd hj (Nat.not_lt_zero _)⟩ ?_;conv=>whnf
  refine⟨sI,?_⟩
  rintro k ⟨hk,hb⟩
  conv=>whnf
  refine ae ?_ ?_<;>(intro h1;conv=>whnf)
  ·refine nI ?_
   rw[tN]
   conv=>whnf
   have hc:=hs.2 k (by omega)
   refine dC (OB (s.rows.getD k ar) hc) (fun _=>?_) (fun _=>?_)<;>(conv=>whnf)
   ·rename_i h3
    repeat' ((first|refine nI ?_|refine aI ?_|refine uI ?_|refine vI ?_|refine dI ?_|refine dR ?_|refine dP ?_|refine au rfl ?_|refine pI _ rfl ?_|refine ak _ rfl ?_|refine tI ?_|refine fI ?_|refine ae (fun _=>?_) (fun _=>?_))<;>conv=>whnf)
    refine⟨k+1,sI,⟨by omega,fun j hj=>?_⟩,by dsimp only;omega⟩
    by_cases e:j=k
    ·subst e;exact h3
    ·exact hb j (by omega)
   ·rename_i h3
    exact⟨x8 (He h0 hw (fun hh=>h3 (hh k (by omega)))).symm,rfl⟩
  ·obtain rfl:k=s.rows.length:=by omega
   exact⟨x8 (xa (by omega) hw (by omega) hb).symm,rfl⟩
theorem zD (x:List Int) (hl:x.length<=140737488355328):ah Tryz.prog 86 [.sl 0 al x] (fun u=>u= .bool (decide (lx x))):=by
 refine ah.intro ab ac Tryz.func86 rfl (by decide) ?_;(conv=>whnf)
 refine aJ.loopF ab ac (fun k:Nat=>k<=x.length/\∀j,j<k->0<=x.getD j 0/\x.getD j 0<=1048576) (fun k=>[(7, .int .i64 (k:Int))]) (fun _=>[]) (fun k=>x.length-k) 0 ⟨Nat.zero_le _,fun j hj=>absurd hj (Nat.not_lt_zero _)⟩ ?_;conv=>whnf
 refine⟨sI,?_⟩
 rintro k ⟨hk,ha⟩
 conv=>whnf
 refine ae ?_ ?_<;>(intro h1;conv=>whnf)
 ·refine nI ?_
  rw[tN]
  conv=>whnf
  refine ae ?_ ?_<;>(intro h2;conv=>whnf)
  ·exact⟨aA (fun h=>by have:=h k (by omega);omega),rfl⟩
  refine ae ?_ ?_<;>(intro h3;conv=>whnf)
  ·exact⟨aA (fun h=>by have:=h k (by omega);omega),rfl⟩
  repeat' ((first|refine nI ?_|refine aI ?_|refine uI ?_|refine vI ?_|refine dI ?_|refine dR ?_|refine dP ?_|refine au rfl ?_|refine pI _ rfl ?_|refine ak _ rfl ?_|refine tI ?_|refine fI ?_|refine ae (fun _=>?_) (fun _=>?_))<;>conv=>whnf)
  refine⟨k+1,sI,⟨by omega,fun j hj=>?_⟩,by dsimp only;omega⟩
  by_cases e:j=k
  ·subst e;omega
  ·exact ha j (by omega)
 ·obtain rfl:k=x.length:=by omega
  exact⟨bE ha,rfl⟩
def P7 (r:aV) (x:List Int):Prop:=r.coef.length=x.length/\x.length<=96/\lx x
instance (r:aV) (x:List Int):Decidable (P7 r x):=inferInstanceAs (Decidable (_/\_))
set_option maxHeartbeats 32000000
theorem eg (n lo hi:Int):ah Tryz.prog 138 [.int .i64 n, .int .i64 lo, .int .i64 hi] (fun u=>u= .bool (decide (lo<=n/\n<=hi))):=by
 refine ah.intro ab ac Tryz.func138 rfl (by decide) ?_;(conv=>whnf)
 refine ae ?_ ?_<;>(intro h;conv=>whnf)
 ·refine ae ?_ ?_<;>(intro h2;conv=>whnf)
  ·exact⟨bE ⟨by omega,by omega⟩,rfl⟩
  ·exact⟨aA (fun hh=>by omega),rfl⟩
 ·exact⟨aA (fun hh=>by omega),rfl⟩
theorem Hf (r:aV) (hl:r.coef.length<=140737488355328):ah Tryz.prog 185 [.agg (aw r)] (fun u=>u= .bool (decide (mH r))):=by
 refine ah.intro ab ac Tryz.func185 rfl (by decide) ?_;(conv=>whnf)
 refine au rfl ?_
 conv=>whnf
 refine aJ.loopF ab ac (fun k:Nat=>k<=r.coef.length/\∀j,j<k->ia (r.coef.getD j 0)) (fun k=>[(3, .int .i64 (k:Int))]) (fun _=>[]) (fun k=>r.coef.length-k) 0 ⟨Nat.zero_le _,fun j hj=>absurd hj (Nat.not_lt_zero _)⟩ ?_;conv=>whnf
 refine⟨sI,?_⟩
 rintro k ⟨hk,ha⟩
 conv=>whnf
 refine ae ?_ ?_<;>(intro h1;conv=>whnf)
 ·refine nI ?_
  rw[tN]
  conv=>whnf
  refine dC (eg (r.coef.getD k 0) (-68719476736) 68719476736) (fun _=>?_) (fun _=>?_)<;>(conv=>whnf)
  ·rename_i h2
   repeat' ((first|refine nI ?_|refine aI ?_|refine uI ?_|refine vI ?_|refine dI ?_|refine dR ?_|refine dP ?_|refine au rfl ?_|refine pI _ rfl ?_|refine ak _ rfl ?_|refine tI ?_|refine fI ?_|refine ae (fun _=>?_) (fun _=>?_))<;>conv=>whnf)
   refine⟨k+1,sI,⟨by omega,fun j hj=>?_⟩,by dsimp only;omega⟩
   by_cases e:j=k
   ·subst e;exact h2
   ·exact ha j (by omega)
  ·rename_i h2
   exact⟨aA (fun h=>h2 (h.1 k (by omega))),rfl⟩
 ·obtain rfl:k=r.coef.length:=by omega
  refine dC (eg r.const (-68719476736) 68719476736) (fun _=>?_) (fun _=>?_)<;>(conv=>whnf)
  ·rename_i h2
   exact⟨bE ⟨ha,h2⟩,rfl⟩
  ·rename_i h2
   exact⟨aA (fun h=>h2 h.2),rfl⟩
theorem EK (s:dF) (hs:NE s):ah Tryz.prog 96 [.agg (mG s)] (fun u=>u= .int .i64 (eZ s)):=by
 have hs1:=hs.1
 refine ah.intro ab ac Tryz.func96 rfl (by decide) ?_;(conv=>whnf)
 refine au rfl ?_
 conv=>whnf
 refine dC (eg s.vars 0 96) (fun _=>?_) (fun _=>?_)<;>(conv=>whnf)
 rotate_left
 ·rename_i h
  exact⟨x8 (by unfold eZ;rw[if_pos (by omega)]),rfl⟩
 rename_i h
 have h0:¬(s.vars<0\/96<s.vars):=by omega
 refine aJ.loopF ab ac (fun k:Nat=>k<=s.rows.length/\∀j,j<k->((s.rows.getD j ar).coef.length:Int)=s.vars) (fun k=>[(3, .int .i64 (k:Int))]) (fun _=>[]) (fun k=>s.rows.length-k) 0 ⟨Nat.zero_le _,fun j hj=>absurd hj (Nat.not_lt_zero _)⟩ ?_;conv=>whnf
 refine⟨sI,?_⟩
 rintro k ⟨hk,ha⟩
 conv=>whnf
 refine ae ?_ ?_<;>(intro h1;conv=>whnf)
 ·have hc:=hs.2 k (by omega)
  refine dI ?_
  conv=>whnf
  refine nI ?_
  rw[tN]
  conv=>whnf
  refine ae ?_ ?_<;>(intro h2;conv=>whnf)
  ·exact⟨x8 (Hc fun hw=>h2 (hw k (by omega))).symm,rfl⟩
  ·repeat' ((first|refine nI ?_|refine aI ?_|refine uI ?_|refine vI ?_|refine dI ?_|refine dR ?_|refine dP ?_|refine au rfl ?_|refine pI _ rfl ?_|refine ak _ rfl ?_|refine tI ?_|refine fI ?_|refine ae (fun _=>?_) (fun _=>?_))<;>conv=>whnf)
   refine⟨k+1,sI,⟨by omega,fun j hj=>?_⟩,by dsimp only;omega⟩
   by_cases e:j=k
   ·subst e;exact Classical.not_not.1 h2
   ·exact ha j (by omega)
 ·obtain rfl:k=s.rows.length:=by omega
  have hw:uQ s:=ha
  refine ae ?_ ?_<;>(intro h2;conv=>whnf)
  ·exact⟨x8 (Hd h0 hw (by omega)).symm,rfl⟩
  refine aJ.loopF ab ac (fun k:Nat=>k<=s.rows.length/\∀j,j<k->mH (s.rows.getD j ar)) (fun k=>[(4, .int .i64 (k:Int))]) (fun _=>[]) (fun k=>s.rows.length-k) 0 ⟨Nat.zero_le _,fun j hj=>absurd hj (Nat.not_lt_zero _)⟩ ?_;conv=>whnf
  refine⟨sI,?_⟩
  rintro k ⟨hk,hb⟩
  conv=>whnf
  refine ae ?_ ?_<;>(intro h1;conv=>whnf)
  ·refine nI ?_
   rw[tN]
   conv=>whnf
   have hc:=hs.2 k (by omega)
   refine dC (Hf (s.rows.getD k ar) hc) (fun _=>?_) (fun _=>?_)<;>(conv=>whnf)
   ·rename_i h3
    repeat' ((first|refine nI ?_|refine aI ?_|refine uI ?_|refine vI ?_|refine dI ?_|refine dR ?_|refine dP ?_|refine au rfl ?_|refine pI _ rfl ?_|refine ak _ rfl ?_|refine tI ?_|refine fI ?_|refine ae (fun _=>?_) (fun _=>?_))<;>conv=>whnf)
    refine⟨k+1,sI,⟨by omega,fun j hj=>?_⟩,by dsimp only;omega⟩
    by_cases e:j=k
    ·subst e;exact h3
    ·exact hb j (by omega)
   ·rename_i h3
    exact⟨x8 (He h0 hw (fun hh=>h3 (hh k (by omega)))).symm,rfl⟩
  ·obtain rfl:k=s.rows.length:=by omega
   exact⟨x8 (xa (by omega) hw (by omega) hb).symm,rfl⟩
end Go.Proofs.YtekmminpfhacpaaGreatDoor
