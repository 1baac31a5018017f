import Derived.Test.YtekmminpfhacpaaGreatDoorX1
set_option linter.unusedVariables false
set_option linter.unusedSimpArgs false
namespace Go.Proofs.YtekmminpfhacpaaGreatDoor
section
set_option maxRecDepth 100000
set_option maxHeartbeats 16000000
theorem I' (a b:Int) (hb:b≠0):Int.gcd a b=Int.gcd b (a.tmod b):=by
 have h:=Int.gcd_add_mul_right_right b (a.tmod b) (a.tdiv b)
 have e:=Int.mul_tdiv_add_tmod a b
 rw[Int.gcd_comm,<-h]
 congr 1
 rw[Int.mul_comm (a.tdiv b) b]
 omega
theorem Pe (a d:Int) (ha:-9223372036854775807<=a/\a<=9223372036854775807) (hd:1<=d):ab Tryz.prog 273 [.int .i64 a, .int .i64 d] (fun u=>u= .int .i64 (Ln a d)):=by
 have hq:-9223372036854775807<=a.tdiv d/\a.tdiv d<=9223372036854775807:=by
  have h:=Int.natAbs_tdiv_le_natAbs a d
  omega
 refine ab.intro ae ag Tryz.func273 rfl (by decide) ?_;(conv=>whnf)
 refine yj (by omega) (by omega) ?_
 conv=>whnf
 refine nI ?_
 conv=>whnf
 refine ai ?_ ?_<;>(intro h;conv=>whnf)
 ·refine aI ?_
  conv=>whnf
  exact⟨x6 (by unfold Ln;rw[if_pos h]),rfl⟩
 ·exact⟨x6 (by unfold Ln;rw[if_neg h]),rfl⟩
theorem Pf (a b:Int) (ha:0<=a/\a<=9223372036854775807) (hb:0<=b/\b<=9223372036854775807):ab Tryz.prog 218 [.int .i64 a, .int .i64 b] (fun u=>u= .int .i64 (Int.gcd a b:Int)):=by
 refine ab.intro ae ag Tryz.func218 rfl (by decide) ?_;(conv=>whnf)
 refine a8.loopF ae ag (fun x:Int×Int=>(0<=x.1/\x.1<=9223372036854775807)/\(0<=x.2/\x.2<=9223372036854775807)/\Int.gcd x.1 x.2=Int.gcd a b) (fun x=>[(0, .int .i64 x.1),(1, .int .i64 x.2)]) (fun _=>[]) (fun x=>x.2.toNat) (a,b) ⟨ha,hb,rfl⟩ ?_;conv=>whnf
 refine⟨sI,?_⟩
 rintro⟨x,y⟩ ⟨hx,hy,hg⟩
 conv=>whnf
 refine ai ?_ ?_<;>(intro h1;conv=>whnf)
 ·dsimp only at hx hy hg
  refine dI ?_
  conv=>whnf
  refine bp h1 ?_
  conv=>whnf
  have h3:=Int.tmod_nonneg y hx.1
  have h4:=Int.tmod_lt_of_pos x (show 0<y by omega)
  refine⟨(y,x.tmod y),sI,⟨hy,by dsimp only;omega,?_⟩,by dsimp only;omega⟩
  dsimp only
  rw[<-hg,I' x y h1]
 ·have h0:y=0:=Classical.not_not.1 h1
  subst h0
  refine⟨x6 ?_,rfl⟩
  dsimp only at hg hx
  rw[<-hg,Int.gcd_zero_right]
  omega
def oA (r:br):Nat->Int
 |0=>0
 |k+1=>(Int.gcd (oA r k) (r.coef.getD k 0):Int)
theorem BW {r:br} (hs:CS r.coef):∀k,k<=r.coef.length->0<=oA r k/\oA r k<=68719476736
 |0,_=>by rw[oA];omega
 |k+1,hk=>by
  have ih:=BW hs k (by omega)
  have hc:iB (r.coef.getD k 0):=hs k (by omega)
  unfold iB at hc
  rw[oA]
  by_cases e:r.coef.getD k 0=0
  ·rw[e,Int.gcd_zero_right];omega
  ·have h:=Int.gcd_le_natAbs_right (oA r k) e
   omega
theorem Ja (r:br) (hs:lz r) (hl:r.coef.length<=140737488355328):ab Tryz.prog 213 [.agg (aE r)] (fun u=>u= .int .i64 (oA r r.coef.length)):=by
 refine ab.intro ae ag Tryz.func213 rfl (by decide) ?_;(conv=>whnf)
 refine ar rfl ?_
 conv=>whnf
 refine a8.loopF ae ag (fun k:Nat=>k<=r.coef.length) (fun k=>[(9, .int .i64 (k:Int)),(3, .int .i64 (oA r k))]) (fun _=>[]) (fun k=>r.coef.length-k) 0 (Nat.zero_le _) ?_;conv=>whnf
 refine⟨sI,?_⟩
 rintro k hk
 have hz:=BW hs.1 k (by omega)
 conv=>whnf
 refine ai ?_ ?_<;>(intro h1;conv=>whnf)
 ·refine nI ?_
  rw[tN]
  conv=>whnf
  have hc:iB (r.coef.getD k 0):=hs.1 k (by omega)
  unfold iB at hc
  refine aI ?_
  conv=>whnf
  have hG:=Pf (oA r k) (if 0-r.coef.getD k 0>r.coef.getD k 0 then 0-r.coef.getD k 0 else r.coef.getD k 0) (by omega) (by split<;>omega)
  have e:(Int.gcd (oA r k) (if 0-r.coef.getD k 0>r.coef.getD k 0 then 0-r.coef.getD k 0 else r.coef.getD k 0):Int)=oA r (k+1):=by
   rw[oA]
   split
   ·rw[Int.zero_sub,Int.gcd_neg]
   ·rfl
  rw[e] at hG
  (refine oP (hG) ?_;conv=>whnf)
  repeat' ((first|refine nI ?_|refine aI ?_|refine uI ?_|refine vI ?_|refine dI ?_|refine dR ?_|refine dP ?_|refine ar rfl ?_|refine pI _ rfl ?_|refine an _ rfl ?_|refine tI ?_|refine fI ?_|refine ai (fun _=>?_) (fun _=>?_))<;>conv=>whnf)
  exact⟨k+1,sI,by omega,by dsimp only;omega⟩
 ·obtain rfl:k=r.coef.length:=by omega
  exact⟨rfl,rfl⟩
theorem mX (r:br) (hl:r.coef.length<=140737488355328):ab Tryz.prog 129 [.agg (aE r)] (fun u=>u= .bool (decide (zu r))):=by
 refine ab.intro ae ag Tryz.func129 rfl (by decide) ?_;(conv=>whnf)
 refine ar rfl ?_
 conv=>whnf
 refine a8.loopF ae ag (fun k:Nat=>k<=r.coef.length/\∀j,j<k->r.coef.getD j 0<=0) (fun k=>[(8, .int .i64 (k:Int))]) (fun _=>[]) (fun k=>r.coef.length-k) 0 ⟨Nat.zero_le _,fun j hj=>absurd hj (Nat.not_lt_zero _)⟩ ?_;conv=>whnf
 refine⟨sI,?_⟩
 rintro k ⟨hk,ha⟩
 conv=>whnf
 refine ai ?_ ?_<;>(intro h1;conv=>whnf)
 ·refine nI ?_
  rw[tN]
  conv=>whnf
  refine ai ?_ ?_<;>(intro h2;conv=>whnf)
  ·exact⟨aC (fun h=>by have:=h.1 k (by omega);omega),rfl⟩
  ·repeat' ((first|refine nI ?_|refine aI ?_|refine uI ?_|refine vI ?_|refine dI ?_|refine dR ?_|refine dP ?_|refine ar rfl ?_|refine pI _ rfl ?_|refine an _ rfl ?_|refine tI ?_|refine fI ?_|refine ai (fun _=>?_) (fun _=>?_))<;>conv=>whnf)
   refine⟨k+1,sI,⟨by omega,fun j hj=>?_⟩,by dsimp only;omega⟩
   by_cases e:j=k
   ·subst e;omega
   ·exact ha j (by omega)
 ·obtain rfl:k=r.coef.length:=by omega
  refine ai ?_ ?_<;>(intro h2;conv=>whnf)
  ·exact⟨bk ⟨ha,h2⟩,rfl⟩
  ·exact⟨aC (fun h=>h2 h.2),rfl⟩
theorem QW (n:Nat) (v:Int) (hn:n<=1000) (hv:0<=v/\v<n):ab Tryz.prog 274 [.int .i64 n, .int .i64 v] (fun u=>u= .agg (aE ⟨(List.replicate n 0).set v.toNat 1,0⟩)):=by
 refine ab.intro ae ag Tryz.func274 rfl (by decide) ?_;(conv=>whnf)
 refine Cd 0 ak 0 rfl (by dsimp only;omega) ?_
 rw[tN]
 conv=>whnf
 refine nI ?_
 conv=>whnf
 refine an 1 rfl ?_
 conv=>whnf
 exact⟨rfl,rfl⟩
theorem LT (n:Nat) (v k:Int) (hn:n<=1000) (hv:0<=v/\v<n):ab Tryz.prog 220 [.int .i64 n, .int .i64 v, .int .i64 k] (fun u=>u= .agg (aE (jr n v k))):=by
 refine ab.intro ae ag Tryz.func220 rfl (by decide) ?_;(conv=>whnf)
 refine Cd 0 ak 0 rfl (by dsimp only;omega) ?_
 rw[tN]
 conv=>whnf
 refine nI ?_
 conv=>whnf
 refine an (-1) rfl ?_
 conv=>whnf
 exact⟨rfl,rfl⟩
theorem Jb (n:Nat) (v k:Int) (hn:n<=1000) (hv:0<=v/\v<n) (hk:-9223372036854775807<=k/\k<=9223372036854775807):ab Tryz.prog 221 [.int .i64 n, .int .i64 v, .int .i64 k] (fun u=>u= .agg (aE (jA n v k))):=by
 refine ab.intro ae ag Tryz.func221 rfl (by decide) ?_;(conv=>whnf)
 (refine oP (QW n v hn hv) ?_;conv=>whnf)
 refine aI ?_
 conv=>whnf
 refine⟨?_,rfl⟩
 unfold jA aE
 rw[Int.zero_sub]
 rfl
set_option maxHeartbeats 32000000
def c9 (n:Nat) (c:List Int) (f:Nat->Int) (j:Nat):List Int:=(List.range n).map fun i=>if i<j then f i else c.getD i 0
theorem eN (n:Nat) (c:List Int) (f:Nat->Int) (j:Nat):(c9 n c f j).length=n:=by simp[c9]
theorem i9 {n:Nat} {c:List Int} (f:Nat->Int) (h:c.length=n):c9 n c f 0=c:=by
 apply List.ext_getElem
 ·simp[c9,h]
 ·intro i h1 h2
  simp[c9,gD,gL h2]
theorem kK {n:Nat} {c:List Int} {f:Nat->Int} {i j:Nat} (h:i<n) (hj:¬i<j):(c9 n c f j).getD i 0=c.getD i 0:=by
 rw[am 0 (by rw[eN];exact h)]
 simp only[c9,List.getElem_map,List.getElem_range]
 rw[if_neg hj]
theorem ny {n:Nat} {c:List Int} {f:Nat->Int} {j:Nat} (h:j<n):(c9 n c f j).set j (f j)=c9 n c f (j+1):=by
 apply List.ext_getElem
 ·simp[c9]
 ·intro i h1 h2
  rw[List.getElem_set]
  simp only[c9,List.getElem_map,List.getElem_range]
  by_cases e:j=i
  ·subst e;rw[if_pos rfl,if_pos (by omega)]
  ·rw[if_neg e]
   by_cases h3:i<j
   ·rw[if_pos h3,if_pos (by omega)]
   ·rw[if_neg h3,if_neg (by omega)]
theorem kL (n:Nat) (c:List Int) (f:Nat->Int):c9 n c f n=(List.range n).map f:=by
 apply List.ext_getElem
 ·simp[c9]
 ·intro i h1 h2
  simp only[c9,List.getElem_map,List.getElem_range]
  rw[if_pos (by simpa[c9] using h1)]
theorem Jc (a d:Int) {m:Int} (h:-m<=a/\a<=m):-m<=a.tdiv d/\a.tdiv d<=m:=by
 have:=Int.natAbs_tdiv_le_natAbs a d
 omega
theorem qV {c:List Int} {n:Nat} (f:Int->Int) (h:c.length=n):(List.range n).map (fun i=>f (c.getD i 0))=c.map f:=by
 apply List.ext_getElem
 ·simp[h]
 ·intro i h1 h2
  have h3:i<c.length:=by simpa using h2
  simp[gD,gL h3]
def Ri (d:l8):Prop:=d.src.length<=140737488355328/\d.mult.length<=140737488355328
def pX (n:Nat) (nodes:List gC) (rows:List br):List (Nat×aU):=[(7001, .box 223 [.int .i64 n, .sl aw bn nodes, .row 7002 rows.length 2]),(7002, .row 161 av aE rows)]
def Pg (n:Nat) (nodes:List gC) (rows:List br) (c:List Int) (k:Int):List (Nat×aU):=
 [(7001, .box 223 [.int .i64 n, .sl aw bn nodes, .row 7002 rows.length 2]),(7002, .row 161 av aE rows),(4, .box 161 [.nilsl, .int .i64 0]),(6, .box 161 [.row 47 n 1, .int .i64 k]),(47, .row 3 0 ak c)]
def QX (n:Nat) (rows:List br) (d:l8) (u:AV):Prop:=(x7 n rows d/\u= .tup [.agg (aE (od n rows d)), .bool true])\/(¬x7 n rows d/\∃r,u= .tup [.agg (aE r), .bool false])
def Ph (n:Nat) (rows:List br) (d:l8) (u:AV):Prop:=QX n rows d u\/(¬x7 n rows d/\u= .tup [.agg [.nilsl, .int .i64 0], .bool false])
theorem LU (n:Nat) (nodes:List gC) (rows:List br) (d:l8) (hn:n<=96) (hr:mR n rows) (hl:rows.length<=10000000) (hd:Ri d):
  aj Tryz.prog 219 [.ptr 7001 0, .agg (vP d)] (ac.ofL (pX n nodes rows)) (fun u M=>QX n rows d u/\M=ac.ofL (pX n nodes rows)):=by
 have hd1:=hd.1
 have hd2:=hd.2
 refine aj.renorm 400 (R:=fun u M=>Ph n rows d u/\bD (n7 (pX n nodes rows)) 400 M (pX n nodes rows)) ?_ ?_
 case refine_2=>
  rintro u M' ⟨hu|⟨hb,rfl⟩,hM⟩
  ·rcases hu with ⟨hb,rfl⟩|⟨hb,r,rfl⟩
   ·exact⟨_,_, .tup [.agg (aE (od n rows d)), .bool true],rfl,hM,⟨⟨rfl,rfl,trivial⟩,rfl,trivial⟩, .inl ⟨hb,rfl⟩,rfl⟩
   ·exact⟨_,_, .tup [.agg (aE r), .bool false],rfl,hM,⟨⟨rfl,rfl,trivial⟩,rfl,trivial⟩, .inr ⟨hb,r,rfl⟩,rfl⟩
  ·exact⟨_,_, .tup [.agg (aE av), .bool false],rfl,hM,⟨⟨rfl,rfl,trivial⟩,rfl,trivial⟩, .inr ⟨hb,av,rfl⟩,rfl⟩
 refine aj.introL ae ag (pX n nodes rows) Tryz.func219 rfl (by decide) ?_
 conv=>whnf
 refine ar rfl ?_
 conv=>whnf
 have hno:∀{M:ac},¬x7 n rows d->bD (n7 (pX n nodes rows)) 400 M (pX n nodes rows)->Ph n rows d (.tup [.agg [.nilsl, .int .i64 0], .bool false])/\bD (n7 (pX n nodes rows)) 400 M (pX n nodes rows):=fun h h'=>⟨.inr ⟨h,rfl⟩,h'⟩
 refine ai ?_ ?_<;>(intro h1;conv=>whnf)
 ·exact hno (fun h=>h1 (by have:=h.1.1;omega)) (aa)
 refine ai ?_ ?_<;>(intro h2;conv=>whnf)
 ·exact hno (fun h=>by have:=h.1.2.1;omega) (aa)
 refine ai ?_ ?_<;>(intro h3;conv=>whnf)
 ·exact hno (fun h=>by have:=h.1.2.1;omega) (aa)
 refine ai ?_ ?_<;>(intro h4;conv=>whnf)
 ·exact hno (fun h=>by have:=h.1.2.2;omega) (aa)
 refine ai ?_ ?_<;>(intro h5;conv=>whnf)
 ·exact hno (fun h=>by have:=h.1.2.2;omega) (aa)
 have hed:E2 d:=⟨by omega,by omega,by omega⟩
 refine Cd 0 ak 0 rfl (by dsimp only;omega) ?_
 rw[tN]
 conv=>whnf
 refine a8.loopF ae ag (fun k:Nat=>k<=d.src.length/\∀i,i<k->rH n rows.length d i) (fun k=>[(52, .int .i64 (k:Int))]) (fun k=>Pg n nodes rows (i8 n rows d k) (tT rows d k)) (fun k=>d.src.length-k) 0 ⟨Nat.zero_le _,fun j hj=>absurd hj (Nat.not_lt_zero _)⟩ ?_;conv=>whnf
 refine⟨sI,?_⟩
 rintro k ⟨hk,ha⟩
 have bC:=ME hr k ha
 have bK:=MF hr k ha
 have lC:=lF n rows d k
 conv=>whnf
 refine ai ?_ ?_<;>(intro g1;conv=>whnf)
 ·refine nI ?_
  rw[tN]
  conv=>whnf
  refine nI ?_
  rw[tN]
  conv=>whnf
  refine ai ?_ ?_<;>(intro g2;conv=>whnf)
  ·exact hno (fun h=>by have:=h.2.1 k (by omega);unfold rH at this;omega) (aa)
  refine ai ?_ ?_<;>(intro g3;conv=>whnf)
  ·exact hno (fun h=>by have:=h.2.1 k (by omega);unfold rH at this;omega) (aa)
  refine ai ?_ ?_<;>(intro g4;conv=>whnf)
  ·exact hno (fun h=>by have:=h.2.1 k (by omega);unfold rH at this;omega) (aa)
  refine aI ?_
  conv=>whnf
  refine ai ?_ ?_<;>(intro g5;conv=>whnf)
  ·exact hno (fun h=>by have:=h.2.1 k (by omega);unfold rH at this;omega) (aa)
  have ht:rH n rows.length d k:=⟨by omega,by omega⟩
  have ha':∀i,i<k+1->rH n rows.length d i:=fun i hi=>by
   by_cases e:i=k
   ·subst e;exact ht
   ·exact ha i (by omega)
  have bm:1<=d.mult.getD k 0/\d.mult.getD k 0<=65536:=ht.2
  by_cases g6:d.src.getD k 0<0
  ·refine dQ g6 ?_
   conv=>whnf
   have bi:=bC (-1-d.src.getD k 0).toNat
   have h64:(k:Int)<64:=by have:=hed.2.1;omega
   refine aI ?_
   conv=>whnf
   refine nI ?_
   conv=>whnf
   refine aI ?_
   conv=>whnf
   refine nI ?_
   conv=>whnf
   refine an _ rfl ?_
   conv=>whnf
   repeat' ((first|refine nI ?_|refine aI ?_|refine uI ?_|refine vI ?_|refine dI ?_|refine dR ?_|refine dP ?_|refine ar rfl ?_|refine pI _ rfl ?_|refine an _ rfl ?_|refine tI ?_|refine fI ?_|refine ai (fun _=>?_) (fun _=>?_))<;>conv=>whnf)
   refine⟨k+1,?_,⟨by omega,ha'⟩,by dsimp only;omega⟩
   dsimp only
   rw[i8,if_pos g6,tT,if_pos g6]
   exact sI
  ·refine j9 g6 ?_
   conv=>whnf
   refine nI ?_
   conv=>whnf
   have hw:=hr (d.src.getD k 0).toNat (by omega)
   have h64:(k:Int)<64:=by have:=hed.2.1;omega
   refine a8.loopF ae ag (fun j:Nat=>j<=n) (fun j=>[(108, .int .i64 (j:Int))]) (fun j=>(10, .box 161 (aE (rows.getD (d.src.getD k 0).toNat av)))::Pg n nodes rows (c9 n (i8 n rows d k) (fun i=>(i8 n rows d k).getD i 0+d.mult.getD k 0*(rows.getD (d.src.getD k 0).toNat av).coef.getD i 0) j) (tT rows d k)) (fun j=>n-j) 0 (Nat.zero_le _) ?_;conv=>whnf
   refine⟨?_,?_⟩
   ·show bd _ _ _ _ _
    rw[i9 _ lC]
    exact sI
   rintro j hj
   conv=>whnf
   refine ai ?_ ?_<;>(intro g7;conv=>whnf)
   ·have hjn:j<n:=by omega
    have lM:=eN n (i8 n rows d k) (fun i=>(i8 n rows d k).getD i 0+d.mult.getD k 0*(rows.getD (d.src.getD k 0).toNat av).coef.getD i 0) j
    have bj:=bC j
    have cj:iB ((rows.getD (d.src.getD k 0).toNat av).coef.getD j 0):=hw.2.1 j (by omega)
    have mj:=xn cj bm
    first|refine dI ?_|refine lQ (by decide+kernel) ?_
    conv=>whnf
    refine nI ?_
    rw[tN]
    conv=>whnf
    rw[kK hjn (Nat.lt_irrefl _)]
    refine nI ?_
    rw[tN]
    conv=>whnf
    refine aI ?_
    conv=>whnf
    refine aI ?_
    conv=>whnf
    refine nI ?_
    conv=>whnf
    refine an _ rfl ?_
    conv=>whnf
    repeat' ((first|refine nI ?_|refine aI ?_|refine uI ?_|refine vI ?_|refine dI ?_|refine dR ?_|refine dP ?_|refine ar rfl ?_|refine pI _ rfl ?_|refine an _ rfl ?_|refine tI ?_|refine fI ?_|refine ai (fun _=>?_) (fun _=>?_))<;>conv=>whnf)
    refine⟨j+1,?_,by omega,by dsimp only;omega⟩
    dsimp only
    rw[<-ny hjn]
    exact sI
   ·obtain rfl:j=n:=by omega
    have cK:=xn hw.2.2 bm
    refine aI ?_
    conv=>whnf
    refine aI ?_
    conv=>whnf
    repeat' ((first|refine nI ?_|refine aI ?_|refine uI ?_|refine vI ?_|refine dI ?_|refine dR ?_|refine dP ?_|refine ar rfl ?_|refine pI _ rfl ?_|refine an _ rfl ?_|refine tI ?_|refine fI ?_|refine ai (fun _=>?_) (fun _=>?_))<;>conv=>whnf)
    refine⟨k+1,?_,⟨by omega,ha'⟩,by dsimp only;omega⟩
    dsimp only
    rw[i8,if_neg g6,tT,if_neg g6,<-kL j (i8 j rows d k)]
    exact sI
 ·obtain rfl:k=d.src.length:=by omega
  have h64:(d.src.length:Int)<=64:=by have:=hed.2.1;omega
  have hdv:1<=d.div/\d.div<=68719476736:=hed.2.2
  refine a8.loopF ae ag (fun j:Nat=>j<=n/\∀i,i<j->((i8 n rows d d.src.length).getD i 0).tmod d.div=0) (fun j=>[(138, .int .i64 (j:Int))]) (fun j=>Pg n nodes rows (c9 n (i8 n rows d d.src.length) (fun i=>((i8 n rows d d.src.length).getD i 0).tdiv d.div) j) (tT rows d d.src.length)) (fun j=>n-j) 0 ⟨Nat.zero_le _,fun j hj=>absurd hj (Nat.not_lt_zero _)⟩ ?_;conv=>whnf
  refine⟨?_,?_⟩
  ·show bd _ _ _ _ _
   rw[i9 _ lC]
   exact sI
  rintro j ⟨hj,hm⟩
  have lM:=eN n (i8 n rows d d.src.length) (fun i=>((i8 n rows d d.src.length).getD i 0).tdiv d.div) j
  conv=>whnf
  refine ai ?_ ?_<;>(intro g7;conv=>whnf)
  ·have hjn:j<n:=by omega
   have bj:=bC j
   refine dI ?_
   conv=>whnf
   refine nI ?_
   rw[tN]
   conv=>whnf
   rw[kK hjn (Nat.lt_irrefl _)]
   refine nI ?_
   conv=>whnf
   refine ai ?_ ?_<;>(intro g8;conv=>whnf)
   ·exact hno (fun h=>g8 (h.2.2.1 j hjn)) (aa)
   have qj:=Jc ((i8 n rows d d.src.length).getD j 0) d.div (m:=4503599627370496*(d.src.length:Int)) (by omega)
   first|refine dI ?_|refine lQ (by decide+kernel) ?_
   conv=>whnf
   refine nI ?_
   rw[tN]
   conv=>whnf
   rw[kK hjn (Nat.lt_irrefl _)]
   refine yj (by omega) (by omega) ?_
   conv=>whnf
   refine nI ?_
   conv=>whnf
   refine an _ rfl ?_
   conv=>whnf
   repeat' ((first|refine nI ?_|refine aI ?_|refine uI ?_|refine vI ?_|refine dI ?_|refine dR ?_|refine dP ?_|refine ar rfl ?_|refine pI _ rfl ?_|refine an _ rfl ?_|refine tI ?_|refine fI ?_|refine ai (fun _=>?_) (fun _=>?_))<;>conv=>whnf)
   refine⟨j+1,?_,⟨by omega,fun i hi=>?_⟩,by dsimp only;omega⟩
   ·dsimp only
    rw[<-ny hjn]
    exact sI
   ·by_cases e:i=j
    ·subst e;exact Classical.not_not.1 g8
    ·exact hm i (by omega)
  ·obtain rfl:j=n:=by omega
   have bK':=bK
   refine aj.of_pure (n:=5) (Pe (tT rows d d.src.length) d.div (by omega) hdv.1) rfl ?_
   rintro _ rfl
   conv=>whnf
   have hR:(⟨c9 j (i8 j rows d d.src.length) (fun i=>((i8 j rows d d.src.length).getD i 0).tdiv d.div) j,Ln (tT rows d d.src.length) d.div⟩:br)=od j rows d:=by
    rw[kL,qV (fun a=>a.tdiv d.div) lC]
    rfl
   have fin:∀{M:ac},bD (n7 (pX j nodes rows)) 400 M (pX j nodes rows)->Ph j rows d (.tup [.agg (aE ⟨c9 j (i8 j rows d d.src.length) (fun i=>((i8 j rows d d.src.length).getD i 0).tdiv d.div) j,Ln (tT rows d d.src.length) d.div⟩), .bool (decide (lz ⟨c9 j (i8 j rows d d.src.length) (fun i=>((i8 j rows d d.src.length).getD i 0).tdiv d.div) j,Ln (tT rows d d.src.length) d.div⟩))])/\bD (n7 (pX j nodes rows)) 400 M (pX j nodes rows):=by
    intro M hM
    refine⟨.inl ?_,hM⟩
    rw[hR]
    by_cases hs:lz (od j rows d)
    ·rw[decide_eq_true hs]
     exact .inl ⟨⟨hed,ha,hm,hs⟩,rfl⟩
    ·rw[decide_eq_false hs]
     exact .inr ⟨fun h=>hs h.2.2.2,_,rfl⟩
   refine o9 ?_
   conv=>whnf
   repeat' first
    |exact True.intro
    |exact fin (aa)
    |(refine And.intro ?_ ?_<;>conv=>whnf)
    |((refine aj.borrow (n:=5) (OB ⟨c9 j (i8 j rows d d.src.length) (fun i=>((i8 j rows d d.src.length).getD i 0).tdiv d.div) j,Ln (tT rows d d.src.length) d.div⟩ (by dsimp only;omega)) rfl (by rintro _ rfl;rfl) ?_;rintro _ rfl;conv=>whnf))
def ay:Nat->(Nat->Int)->Int
 |0,_=>0
 |n+1,f=>ay n f+f n
theorem aM {n:Nat} {f g:Nat->Int} (h:∀i,i<n->f i=g i):ay n f=ay n g:=by
 induction n with
 |zero=>rfl
 |succ n ih=>rw[ay,ay,ih fun i hi=>h i (by omega),h n (by omega)]
theorem Jd (n:Nat) (a b:Int) (f g:Nat->Int):ay n (fun i=>a*f i+b*g i)=a*ay n f+b*ay n g:=by
 induction n with
 |zero=>simp[ay]
 |succ n ih=>rw[ay,ay,ay,ih,Int.mul_add,Int.mul_add];omega
theorem fO (n:Nat) (f:Nat->Int) (h:∀i,i<n->f i=0):ay n f=0:=by
 rw[aM h]
 induction n with
 |zero=>rfl
 |succ n ih=>rw[ay,ih fun i hi=>h i (by omega)];rfl
theorem gm {n:Nat} {f:Nat->Int} {r:Nat} (hr:r<n) (h:∀i,i<n->i≠r->f i=0):ay n f=f r:=by
 induction n with
 |zero=>omega
 |succ n ih=>
  rw[ay]
  by_cases e:r=n
  ·subst e;rw[fO r f fun i hi=>h i (by omega) (by omega)];omega
  ·rw[ih (by omega) fun i hi he=>h i (by omega) he,h n (by omega) (by omega)];omega
theorem zX {n:Nat} {f:Nat->Int} {r s:Nat} (hr:r<n) (hs:s<n) (hrs:r≠s) (h:∀i,i<n->i≠r->i≠s->f i=0):ay n f=f r+f s:=by
 induction n with
 |zero=>omega
 |succ n ih=>
  rw[ay]
  by_cases e:r=n
  ·subst e;rw[gm (r:=s) (by omega) fun i hi he=>h i (by omega) (by omega) he];omega
  ·by_cases e2:s=n
   ·subst e2;rw[gm (r:=r) (by omega) fun i hi he=>h i (by omega) he (by omega)]
   ·rw[ih (by omega) (by omega) fun i hi a b=>h i (by omega) a b,h n (by omega) (by omega) (by omega)];omega
abbrev Cl:=Nat->Nat->Int
def xP (i:Nat) (B:Cl):Cl:=fun k c=>B (if k<i then k else k+1) (c+1)
def Ff (i:Nat):Int:=if i % 2=0 then 1 else -1
theorem Pi (i:Nat):Ff (i+1)=-Ff i:=by
 unfold Ff
 split<;>split<;>omega
def bG:Nat->Cl->Int
 |0,_=>1
 |m+1,B=>ay (m+1) fun i=>Ff i*(B i 0*bG m (xP i B))
def bg (B:Cl) (r:Nat) (v:Nat->Int):Cl:=fun k=>if k=r then v else B k
theorem c5 (B:Cl) (r:Nat) (v:Nat->Int):bg B r v r=v:=by simp[bg]
theorem eh (B:Cl) {r k:Nat} (v:Nat->Int) (h:k≠r):bg B r v k=B k:=by simp[bg,h]
theorem iV:∀(m:Nat) (B C:Cl),(∀k c,k<m->c<m->B k c=C k c)->bG m B=bG m C
 |0,_,_,_=>rfl
 |m+1,B,C,h=>by
  rw[bG,bG]
  refine aM fun i hi=>?_
  rw[h i 0 hi (by omega),iV m (xP i B) (xP i C) fun k c hk hc=>?_]
  unfold xP
  refine h _ _ ?_ (by omega)
  split<;>omega
theorem xQ {B:Cl} {i r:Nat} {v:Nat->Int} (h:i≠r):xP i (bg B r v)=bg (xP i B) (if r<i then r else r-1) (fun c=>v (c+1)):=by
 funext k c
 unfold xP bg
 by_cases hk:k<i
 ·rw[if_pos hk]
  by_cases e:k=r
  ·rw[if_pos e,if_pos (by rw[if_pos (by omega)];exact e)]
  ·rw[if_neg e,if_neg (by split<;>omega)]
   dsimp only
   rw[if_pos hk]
 ·rw[if_neg hk]
  by_cases e:k+1=r
  ·rw[if_pos e,if_pos (by rw[if_neg (by omega)];omega)]
  ·rw[if_neg e,if_neg (by split<;>omega)]
   dsimp only
   rw[if_neg hk]
theorem zY {B:Cl} {r:Nat} {v w:Nat->Int}:xP r (bg B r v)=xP r (bg B r w):=by
 funext k c
 unfold xP bg
 by_cases hk:k<r
 ·rw[if_pos hk,if_neg (by omega),if_neg (by omega)]
 ·rw[if_neg hk,if_neg (by omega),if_neg (by omega)]
theorem jS:∀(m:Nat) (B:Cl) (r:Nat) (u v:Nat->Int) (a b:Int),r<m->bG m (bg B r (fun c=>a*u c+b*v c))=a*bG m (bg B r u)+b*bG m (bg B r v)
 |0,_,_,_,_,_,_,h=>by omega
 |m+1,B,r,u,v,a,b,h=>by
  rw[bG,bG,bG,<-Jd]
  refine aM fun i hi=>?_
  by_cases e:i=r
  ·subst e
   rw[c5,c5,c5,zY (v:=fun c=>a*u c+b*v c) (w:=u),zY (v:=v) (w:=u)]
   generalize bG m (xP i (bg B i u))=x
   generalize Ff i=s
   rw[Int.add_mul,Int.mul_add]
   congr 1<;>rw[Int.mul_assoc,Int.mul_left_comm]
  ·rw[eh _ _ e,eh _ _ e,eh _ _ e,xQ e,xQ e,xQ e,jS m _ _ (fun c=>u (c+1)) (fun c=>v (c+1)) a b (by split<;>omega)]
   generalize bG m _=x
   generalize bG m _=y
   generalize B i 0=z
   generalize Ff i=s
   rw[Int.mul_add,Int.mul_add]
   congr 1<;>rw[Int.mul_left_comm z,Int.mul_left_comm s]
theorem sm:∀(m:Nat) (B:Cl) (r:Nat),r+1<m->(∀c,B r c=B (r+1) c)->bG m B=0
 |0,_,_,h,_=>by omega
 |m+1,B,r,h,he=>by
  rw[bG,zX (r:=r) (s:=r+1) (by omega) h (by omega)]
  ·have e:xP (r+1) B=xP r B:=by
    funext k c
    unfold xP
    by_cases h1:k<r
    ·rw[if_pos h1,if_pos (by omega)]
    ·by_cases h2:k=r
     ·subst h2;rw[if_pos (by omega),if_neg (by omega),he]
     ·rw[if_neg (by omega),if_neg h1]
   rw[e,<-he,Pi,Int.neg_mul]
   omega
  ·intro i hi h1 h2
   have:bG m (xP i B)=0:=by
    by_cases hlt:i<r
    ·refine sm m _ (r-1) (by omega) fun c=>?_
     unfold xP
     rw[if_neg (by omega),if_neg (by omega),show r-1+1=r by omega]
     exact he _
    ·refine sm m _ r (by omega) fun c=>?_
     unfold xP
     rw[if_pos (by omega),if_pos (by omega)]
     exact he _
   rw[this,Int.mul_zero,Int.mul_zero]
def BX (B:Cl) (r s:Nat):Cl:=bg (bg B r (B s)) s (B r)
theorem pY {m:Nat} {B:Cl} {r s:Nat} (hr:r<m) (hs:s<m) (hrs:r≠s) (h0:∀C:Cl,(∀c,C r c=C s c)->bG m C=0):bG m (BX B r s)=-bG m B:=by
 have key:∀u v:Nat->Int,bG m (bg (bg B r u) s v)+bG m (bg (bg B r v) s u)=0:=by
  intro u v
  have add2:∀x y:Nat->Int,bG m (bg (bg B r (fun c=>1*x c+1*y c)) s (fun c=>1*x c+1*y c))=bG m (bg (bg B r x) s x)+bG m (bg (bg B r x) s y)+(bG m (bg (bg B r y) s x)+bG m (bg (bg B r y) s y)):=by
   intro x y
   have comm:∀p q:Nat->Int,bg (bg B r p) s q=bg (bg B s q) r p:=by
    intro p q;funext k
    unfold bg
    by_cases h1:k=s
    ·subst h1;rw[if_pos rfl,if_neg (fun h=>hrs h.symm),if_pos rfl]
    ·rw[if_neg h1,if_neg h1]
   rw[jS m _ s x y 1 1 hs,comm _ x,comm _ y,jS m _ r x y 1 1 hr,jS m _ r x y 1 1 hr,<-comm,<-comm,<-comm,<-comm]
   omega
  have z:∀x:Nat->Int,bG m (bg (bg B r x) s x)=0:=fun x=>h0 _ fun c=>by
   rw[c5,eh _ _ hrs,c5]
  have:=add2 u v
  rw[z,z,z] at this
  omega
 have e:bG m (bg (bg B r (B r)) s (B s))=bG m B:=by
  refine iV m _ _ fun k c _ _=>?_
  unfold bg
  split
  ·subst_vars;rfl
  ·split
   ·subst_vars;rfl
   ·rfl
 have:=key (B s) (B r)
 rw[e] at this
 unfold BX
 omega
theorem xR {m:Nat}:∀(d r:Nat) (B:Cl),r+1+d<m->(∀c,B r c=B (r+1+d) c)->bG m B=0
 |0,r,B,h,he=>sm m B r (by omega) he
 |d+1,r,B,h,he=>by
  have h1:=pY (m:=m) (B:=B) (r:=r+1+d) (s:=r+1+d+1) (by omega) (by omega) (by omega) fun C hC=>sm m C (r+1+d) (by omega) hC
  have h2:=xR (m:=m) d r (BX B (r+1+d) (r+1+d+1)) (by omega) fun c=>by
   unfold BX
   rw[eh _ _ (show r≠r+1+d+1 by omega),eh _ _ (show r≠r+1+d by omega),eh _ _ (show r+1+d≠r+1+d+1 by omega),c5,he]
   rfl
  omega
theorem sn {m:Nat} {B:Cl} {r s:Nat} (hr:r<m) (hs:s<m) (hrs:r≠s) (he:∀c,B r c=B s c):bG m B=0:=by
 by_cases h:r<s
 ·exact xR (s-r-1) r B (by omega) fun c=>by rw[he,show r+1+(s-r-1)=s by omega]
 ·exact xR (r-s-1) s B (by omega) fun c=>by rw[<-he,show s+1+(r-s-1)=r by omega]
theorem Je {m:Nat} {B:Cl} {r s:Nat} (hr:r<m) (hs:s<m) (hrs:r≠s):bG m (BX B r s)=-bG m B:=
 pY hr hs hrs fun C hC=>sn hr hs hrs hC
def uh:Cl:=fun i c=>if i=c then 1 else 0
theorem DF:∀m:Nat,bG m uh=1
 |0=>rfl
 |m+1=>by
  rw[bG,gm (r:=0) (by omega)]
  ·have e:xP 0 uh=uh:=by
    funext k c
    unfold xP uh
    rw[show(if k<0 then k else k+1)=k+1 from if_neg (by omega)]
    by_cases h:k=c
    ·rw[if_pos (by omega),if_pos h]
    ·rw[if_neg (by omega),if_neg h]
   rw[e,DF m]
   rfl
  ·intro i _ hi
   have:uh i 0=0:=by unfold uh;rw[if_neg hi]
   rw[this,Int.zero_mul,Int.mul_zero]
theorem xS {m:Nat} {B C:Cl} {r:Nat} (hr:r<m) (t:Nat->Int):∀n,bG m (bg C r (fun c=>ay n fun k=>t k*B k c))=ay n fun k=>t k*bG m (bg C r (B k))
 |0=>by
  have e:(fun c:Nat=>ay 0 fun k=>t k*B k c)=fun c=>0*B 0 c+0*B 0 c:=by funext c;simp[ay]
  rw[e,jS m C r (B 0) (B 0) 0 0 hr]
  simp[ay]
 |n+1=>by
  have e:(fun c:Nat=>ay (n+1) fun k=>t k*B k c)=fun c=>1*(ay n fun k=>t k*B k c)+t n*B n c:=by funext c;rw[ay];omega
  rw[e,jS m C r _ _ 1 (t n) hr,xS hr t n,ay]
  omega
structure Aq (m q:Nat) (b f:Cl) (c:Nat->Nat->Int) (d:Int):Prop where
 rel:∀j,j<q->∀l,l<m->d*f j l=ay m fun k=>(-c k j)*b k l
 det:d=bG m b\/d=-bG m b
 ne:d≠0
section
variable {m q:Nat} {b f:Cl} {c:Nat->Nat->Int} {d:Int}
theorem da (n:Nat) (a:Int) (f:Nat->Int):a*ay n f=ay n fun i=>a*f i:=by
 induction n with
 |zero=>simp[ay]
 |succ n ih=>rw[ay,ay,Int.mul_add,ih]
theorem pZ (n:Nat) (f g:Nat->Int):(ay n fun i=>f i+g i)=ay n f+ay n g:=by
 induction n with
 |zero=>rfl
 |succ n ih=>rw[ay,ay,ay,ih];omega
theorem zZ (n:Nat) (f g:Nat->Int):(ay n fun i=>f i-g i)=ay n f-ay n g:=by
 induction n with
 |zero=>rfl
 |succ n ih=>rw[ay,ay,ay,ih];omega
theorem Fg (n m:Nat) (f:Nat->Nat->Int):(ay n fun i=>ay m fun j=>f i j)=ay m fun j=>ay n fun i=>f i j:=by
 induction n with
 |zero=>rw[ay];exact(fO m _ fun _ _=>rfl).symm
 |succ n ih=>rw[ay,ih,<-pZ];exact aM fun j _=>rfl
theorem Aq.put (h:Aq m q b f c d) (C:Cl) {i j:Nat} (hi:i<m) (hj:j<q):d*bG m (bg C i (f j))=ay m fun k=>(-c k j)*bG m (bg C i (b k)):=by
 rw[<-xS hi (fun k=>-c k j) m]
 have e:bG m (bg C i (fun l=>ay m fun k=>(-c k j)*b k l))=bG m (bg C i (fun l=>d*f j l+0*f j l)):=by
  refine iV m _ _ fun k l _ hl=>?_
  unfold bg
  split
  ·show(ay m fun k=>(-c k j)*b k l)=d*f j l+0*f j l
   rw[Int.zero_mul,Int.add_zero];exact(h.rel j hj l hl).symm
  ·rfl
 rw[e,jS m C i (f j) (f j) d 0 hi]
 omega
theorem Aq.swap (h:Aq m q b f c d) {i j:Nat} (hi:i<m) (hj:j<q):d*bG m (bg b i (f j))=(-c i j)*bG m b:=by
 rw[h.put b hi hj,gm (r:=i) hi]
 ·congr 1
  refine iV m _ _ fun k l _ _=>?_
  unfold bg
  split
  ·subst_vars;rfl
  ·rfl
 ·intro k hk hki
  rw[sn (r:=i) (s:=k) hi hk (fun e=>hki e.symm) fun l=>by rw[c5,eh _ _ hki],Int.mul_zero]
theorem lL {a x y:Int} (h:a≠0) (e:a*x=a*y):x=y:=Int.eq_of_mul_eq_mul_left h e
theorem Aq.cell (h:Aq m q b f c d) {i j:Nat} (hi:i<m) (hj:j<q):(d=bG m b->bG m (bg b i (f j))=-c i j)/\(d=-bG m b->bG m (bg b i (f j))=c i j):=by
 have a:=h.swap hi hj
 refine⟨fun e=>?_,fun e=>?_⟩
 ·rw[<-e,Int.mul_comm (-c i j)] at a
  exact lL h.ne a
 ·have e2:bG m b=-d:=by omega
  rw[e2,Int.mul_comm (-c i j),Int.neg_mul_neg] at a
  exact lL h.ne a
theorem Aq.exact (h:Aq m q b f c d) {r s i j:Nat} (hr:r<m) (hs:s<q) (hi:i<m) (hj:j<q) (hir:i≠r):∃e,c r s*c i j-c i s*c r j=d*e:=by
 have hC:d*bG m (bg (bg b r (f s)) i (f j))=(-c i j)*bG m (bg b r (f s))+(-c r j)*(-bG m (bg b i (f s))):=by
  rw[h.put (bg b r (f s)) hi hj,zX (r:=i) (s:=r) hi hr hir]
  ·congr 2
   ·refine iV m _ _ fun k l _ _=>?_
    unfold bg
    split
    ·subst_vars;rw[if_neg hir]
    ·rfl
   ·have e:bG m (bg (bg b r (f s)) i (b r))=bG m (BX (bg b i (f s)) r i):=by
     refine iV m _ _ fun k l _ _=>?_
     unfold BX bg
     by_cases h1:k=i
     ·subst h1;rw[if_pos rfl,if_pos rfl,if_neg (fun e=>hir e.symm)]
     ·rw[if_neg h1,if_neg h1]
      by_cases h2:k=r
      ·subst h2;rw[if_pos rfl,if_pos rfl,if_pos rfl]
      ·rw[if_neg h2,if_neg h2,if_neg h1]
    rw[e,Je hr hi (fun e=>hir e.symm)]
  ·intro k hk h1 h2
   rw[sn (r:=i) (s:=k) hi hk (fun e=>h1 e.symm) fun l=>by rw[c5,eh _ _ h1,eh _ _ h2],Int.mul_zero]
 generalize bG m (bg (bg b r (f s)) i (f j))=X at hC
 rcases h.det with e|e
 ·rw[(h.cell hr hs).1 e,(h.cell hi hs).1 e] at hC
  refine⟨X,?_⟩
  rw[hC,Int.neg_mul_neg,Int.neg_neg,Int.mul_comm (c i j),Int.neg_mul,Int.mul_comm (c r j)]
  omega
 ·rw[(h.cell hr hs).2 e,(h.cell hi hs).2 e] at hC
  refine⟨-X,?_⟩
  rw[Int.mul_neg,hC,Int.neg_mul_neg,Int.neg_mul,Int.mul_comm (c i j),Int.mul_comm (c r j)]
  omega
def ui (c e:Nat->Nat->Int) (d:Int) (r s:Nat):Nat->Nat->Int:=fun i j=>if i=r then(if j=s then d else-c r j) else if j=s then c i s else e i j
theorem Aq.pivot (h:Aq m q b f c d) {r s:Nat} (hr:r<m) (hs:s<q) (hp:c r s≠0) {e:Nat->Nat->Int} (he:∀i j,i<m->j<q->i≠r->j≠s->c r s*c i j-c i s*c r j=d*e i j):
  Aq m q (bg b r (f s)) (bg f s (b r)) (ui c e d r s) (c r s):=by
 have split:∀g:Nat->Int,ay m g=(ay m fun k=>if k=r then 0 else g k)+g r:=by
  intro g
  have e1:(ay m fun k=>if k=r then g k else 0)=g r:=by
   rw[gm (r:=r) hr fun i _ hi=>if_neg hi,if_pos rfl]
  rw[<-e1,<-pZ]
  refine aM fun i _=>?_
  split<;>omega
 have rest:∀(g1 g2:Nat->Int),(∀k,k<m->k≠r->g1 k=g2 k)->(ay m fun k=>if k=r then 0 else g1 k)=ay m fun k=>if k=r then 0 else g2 k:=by
  intro g1 g2 hg
  refine aM fun k hk=>?_
  split
  ·rfl
  ·rename_i hkr;exact hg k hk hkr
 refine⟨fun j hj l hl=>?_,?_,hp⟩
 ·have hs':=h.rel s hs l hl
  rw[split] at hs'
  rw[split]
  by_cases hjs:j=s
  ·subst hjs
   rw[c5,c5]
   have e1:=rest (fun k=>-ui c e d r j k j*bg b r (f j) k l) (fun k=>-c k j*b k l) (fun k hk hkr=>by
    unfold ui;rw[if_neg hkr,if_pos rfl,eh _ _ hkr])
   rw[e1]
   have e2:ui c e d r j r j=d:=by unfold ui;rw[if_pos rfl,if_pos rfl]
   rw[e2]
   generalize (ay m fun k=>if k=r then 0 else-c k j*b k l)=A at hs'
   rw[Int.neg_mul] at hs'⊢
   omega
  ·rw[eh _ _ hjs,c5]
   have hj':=h.rel j hj l hl
   rw[split] at hj'
   have e2:ui c e d r s r j=-c r j:=by unfold ui;rw[if_pos rfl,if_neg hjs]
   rw[e2,Int.neg_neg]
   refine lL h.ne ?_
   have e1:d*(ay m fun k=>if k=r then 0 else-ui c e d r s k j*bg b r (f s) k l)=c r s*(ay m fun k=>if k=r then 0 else-c k j*b k l)-c r j*(ay m fun k=>if k=r then 0 else-c k s*b k l):=by
    rw[da,da,da,<-zZ]
    refine aM fun k hk=>?_
    by_cases hkr:k=r
    ·rw[if_pos hkr,if_pos hkr,if_pos hkr];simp
    ·rw[if_neg hkr,if_neg hkr,if_neg hkr]
     have:ui c e d r s k j=e k j:=by unfold ui;rw[if_neg hkr,if_neg hjs]
     rw[this,eh _ _ hkr]
     have hx:=he k j hk hj hkr hjs
     have e3:d*(-e k j*b k l)=-((d*e k j)*b k l):=by rw[Int.neg_mul,Int.mul_neg,Int.mul_assoc]
     rw[e3,<-hx,Int.sub_mul,Int.neg_mul,Int.mul_neg,Int.neg_mul,Int.mul_neg,Int.mul_assoc,Int.mul_assoc,Int.mul_left_comm (c k s),<-Int.mul_assoc (c r j)]
     rw[Int.mul_assoc (c r j)]
     omega
   rw[Int.mul_add,e1]
   generalize (ay m fun k=>if k=r then 0 else-c k j*b k l)=A at hj'⊢
   generalize (ay m fun k=>if k=r then 0 else-c k s*b k l)=B at hs'⊢
   have e4:d*(c r s*f j l)=c r s*(A+-c r j*b r l):=by rw[<-hj',Int.mul_left_comm]
   have e5:d*(c r j*f s l)=c r j*(B+-c r s*b r l):=by rw[<-hs',Int.mul_left_comm]
   rw[e4,e5,Int.mul_add,Int.mul_add,Int.neg_mul,Int.neg_mul,Int.mul_neg,Int.mul_neg,Int.mul_left_comm (c r s)]
   omega
 ·rcases h.det with e0|e0
  ·right;rw[(h.cell hr hs).1 e0];omega
  ·left;rw[(h.cell hr hs).2 e0]
theorem Aq.rows (h:Aq m q b f c d) {zb zf:Nat->Int} (hz:∀l,l<m->(ay m fun k=>zb k*b k l)+(ay q fun j=>zf j*f j l)=0):∀k,k<m->d*zb k=ay q fun j=>c k j*zf j:=by
 intro r hr
 let t:Nat->Int:=fun k=>d*zb k-ay q fun j=>c k j*zf j
 have h0:∀l,l<m->(ay m fun k=>t k*b k l)=0:=by
  intro l hl
  have e1:(ay m fun k=>t k*b k l)=d*(ay m fun k=>zb k*b k l)-ay m fun k=>ay q fun j=>c k j*zf j*b k l:=by
   rw[da,<-zZ]
   refine aM fun k _=>?_
   show(d*zb k-ay q fun j=>c k j*zf j)*b k l=_
   rw[Int.sub_mul,Int.mul_assoc,Int.mul_comm (ay q _),da]
   congr 1
   exact aM fun j _=>Int.mul_comm _ _
  have e2:d*(ay q fun j=>zf j*f j l)=-ay m fun k=>ay q fun j=>c k j*zf j*b k l:=by
   rw[Fg,da]
   have:(-ay q fun j=>ay m fun k=>c k j*zf j*b k l)=ay q fun j=>-ay m fun k=>c k j*zf j*b k l:=by
    have:=da q (-1) (fun j=>ay m fun k=>c k j*zf j*b k l)
    rw[Int.neg_mul,Int.one_mul] at this
    rw[this]
    exact aM fun j _=>by rw[Int.neg_mul,Int.one_mul]
   rw[this]
   refine aM fun j hj=>?_
   rw[Int.mul_left_comm,h.rel j hj l hl,da]
   have:=da m (-1) (fun k=>c k j*zf j*b k l)
   rw[Int.neg_mul,Int.one_mul] at this
   rw[this]
   refine aM fun k _=>?_
   show zf j*(-c k j*b k l)=-1*(c k j*zf j*b k l)
   rw[Int.neg_mul,Int.neg_mul,Int.one_mul,Int.mul_neg,Int.mul_left_comm,Int.mul_assoc]
  have e3:(ay m fun k=>zb k*b k l)=-ay q fun j=>zf j*f j l:=by have:=hz l hl;omega
  rw[e1,e3,Int.mul_neg,e2]
  omega
 have e:bG m (bg b r (fun l=>ay m fun k=>t k*b k l))=t r*bG m b:=by
  rw[xS hr t m,gm (r:=r) hr]
  ·congr 1
   refine iV m _ _ fun k l _ _=>?_
   unfold bg
   split
   ·subst_vars;rfl
   ·rfl
  ·intro k hk hkr
   rw[sn (r:=r) (s:=k) hr hk (fun e=>hkr e.symm) fun l=>by rw[c5,eh _ _ hkr],Int.mul_zero]
 have e':bG m (bg b r (fun l=>ay m fun k=>t k*b k l))=0:=by
  have:bG m (bg b r (fun l=>ay m fun k=>t k*b k l))=bG m (bg b r (fun l=>0*b r l+0*b r l)):=by
   refine iV m _ _ fun k l _ hl=>?_
   unfold bg
   split
   ·show(ay m fun k=>t k*b k l)=0*b r l+0*b r l
    rw[h0 l hl];simp
   ·rfl
  rw[this,jS m b r _ _ 0 0 hr]
  simp
 have hn:bG m b≠0:=by have:=h.ne;rcases h.det with e|e<;>omega
 have:t r=0:=by
  rw[e'] at e
  rcases Int.mul_eq_zero.1 e.symm with h1|h1
  ·exact h1
  ·exact absurd h1 hn
 show d*zb r=_
 have:d*zb r-(ay q fun j=>c r j*zf j)=0:=this
 omega
theorem Aq.point (h:Aq m q b f c d) (hq:0<q) {zb:Nat->Int} (hz:∀k,k<m->d*zb k=c k 0):∀l,l<m->(ay m fun k=>zb k*b k l)+f 0 l=0:=by
 intro l hl
 refine lL h.ne ?_
 rw[Int.mul_add,h.rel 0 hq l hl,da,<-pZ,Int.mul_zero]
 refine fO m _ fun k hk=>?_
 rw[<-hz k hk,Int.neg_mul,Int.mul_assoc]
 omega
end
end
section
set_option maxRecDepth 100000
set_option maxHeartbeats 8000000
structure b7 where
 den:Int
 bas:List Int
 fre:List Int
 cel:List (List Int)
def cl (t:b7) (i j:Nat):Int:=(t.cel.getD i []).getD j 0
def ct (n:Int):Prop:=-1073741824<=n/\n<=1073741824
instance (n:Int):Decidable (ct n):=inferInstanceAs (Decidable (_/\_))
def kM (r:br):List Int:=r.const::r.coef
def z3 (rows:List br):Prop:=∀i,i<rows.length->∀j,j<(kM (rows.getD i av)).length->ct ((kM (rows.getD i av)).getD j 0)
instance (rows:List br):Decidable (z3 rows):=inferInstanceAs (Decidable (∀i,i<rows.length->_))
def ep (n:Nat) (rows:List br):b7:=⟨1,(List.range rows.length).map fun i:Nat=>((n:Int)+(i:Int)),(List.range n).map fun j:Nat=>(j:Int),rows.map kM⟩
def ja (t:b7):Nat->Int
 |0=>-1
 |k+1=>if cl t k 0<0/\(ja t k<0\/t.bas.getD k 0<t.bas.getD (ja t k).toNat 0) then(k:Int) else ja t k
def qf (t:b7) (r:Nat):Nat->Int
 |0=>-1
 |k+1=>if 0<cl t r (k+1)/\(qf t r k<0\/t.fre.getD k 0<t.fre.getD (qf t r k).toNat 0) then(k:Int) else qf t r k
def l9 (t:b7) (r s i j:Nat):Int:=if j=s+1 then cl t i (s+1) else(cl t r (s+1)*cl t i j-cl t i (s+1)*cl t r j).tdiv t.den
def Fw (m n:Nat) (t:b7) (r s:Nat):Prop:=∀i,i<m->i≠r->∀j,j<n+1->ct (l9 t r s i j)
instance (m n:Nat) (t:b7) (r s:Nat):Decidable (Fw m n t r s):=inferInstanceAs (Decidable (∀i,i<m->_))
def so (m n:Nat) (t:b7) (r s:Nat):b7:=
 ⟨cl t r (s+1),t.bas.set r (t.fre.getD s 0),t.fre.set s (t.bas.getD r 0),
  (List.range m).map fun i=>(List.range (n+1)).map fun j=>if i=r then(if j=s+1 then t.den else-cl t r j) else l9 t r s i j⟩
def Fh (m n:Nat):Nat->b7->Option (b7×Int)
 |0,_=>none
 |k+1,t=>
  if ja t m<0 then some (t,-1)
  else if qf t (ja t m).toNat n<0 then some (t,ja t m)
  else if Fw m n t (ja t m).toNat (qf t (ja t m).toNat n).toNat then Fh m n k (so m n t (ja t m).toNat (qf t (ja t m).toNat n).toNat)
  else none
def jB (n:Nat) (rows:List br) (z:Int):Nat->Int:=fun l=>if z<n then-(rows.getD l av).coef.getD z.toNat 0 else if z=(n:Int)+(l:Int) then 1 else 0
def uQ (n:Nat) (rows:List br) (t:b7):Cl:=fun j=>match j with
 |0=>fun l=>-(rows.getD l av).const
 |j+1=>jB n rows (t.fre.getD j 0)
def rK (n:Nat) (rows:List br) (t:b7):Cl:=fun k=>jB n rows (t.bas.getD k 0)
structure eO (m n:Nat) (rows:List br) (t:b7):Prop where
 rl:rows.length=m
 bl:t.bas.length=m
 fl:t.fre.length=n
 cm:t.cel.length=m
 cn:∀i,i<m->(t.cel.getD i []).length=n+1
 dp:0<t.den/\t.den<=1073741824
 cb:∀i j,i<m->j<n+1->ct (cl t i j)
 pm:(t.bas++t.fre).Perm ((List.range (n+m)).map fun z:Nat=>(z:Int))
 tb:Aq m (n+1) (rK n rows t) (uQ n rows t) (cl t) t.den
theorem MU {m n:Nat} {f:Nat->Nat->Int} {d:Int} {a b:List Int} {i j:Nat} (hi:i<m) (hj:j<n):cl ⟨d,a,b,(List.range m).map fun i=>(List.range n).map fun j=>f i j⟩ i j=f i j:=by
 unfold cl
 simp[gD,hi,hj]
theorem sq (t:b7):∀k,-1<=ja t k/\ja t k<k
 |0=>by simp[ja]
 |k+1=>by
  have:=sq t k
  rw[ja];split<;>omega
theorem DG (t:b7):∀k,0<=ja t k->cl t (ja t k).toNat 0<0
 |0,h=>by simp[ja] at h
 |k+1,h=>by
  rw[ja] at h⊢
  split
  ·rename_i hc;rw[tN];exact hc.1
  ·rename_i hc;rw[if_neg hc] at h;exact DG t k h
theorem z4 (t:b7):∀k,ja t k<0->∀i,i<k->0<=cl t i 0
 |0,_,i,hi=>by omega
 |k+1,h,i,hi=>by
  rw[ja] at h
  split at h
  ·omega
  ·rename_i hc
   by_cases e:i=k
   ·subst e;exact Int.not_lt.1 fun h1=>hc ⟨h1, .inl h⟩
   ·exact z4 t k h i (by omega)
theorem sr (t:b7) (r:Nat):∀k,-1<=qf t r k/\qf t r k<k
 |0=>by simp[qf]
 |k+1=>by
  have:=sr t r k
  rw[qf];split<;>omega
theorem xT (t:b7) (r:Nat):∀k,0<=qf t r k->0<cl t r ((qf t r k).toNat+1)
 |0,h=>by simp[qf] at h
 |k+1,h=>by
  rw[qf] at h⊢
  split
  ·rename_i hc;rw[tN];exact hc.1
  ·rename_i hc;rw[if_neg hc] at h;exact xT t r k h
theorem z5 (t:b7) (r:Nat):∀k,qf t r k<0->∀j,j<k->cl t r (j+1)<=0
 |0,_,i,hi=>by omega
 |k+1,h,i,hi=>by
  rw[qf] at h
  split at h
  ·omega
  ·rename_i hc
   by_cases e:i=k
   ·subst e;exact Int.not_lt.1 fun h1=>hc ⟨h1, .inl h⟩
   ·exact z5 t r k h i (by omega)
theorem BZ {n:Nat} {rows:List br} (hw:∀i,i<rows.length->(rows.getD i av).coef.length=n) (hb:z3 rows):eO rows.length n rows (ep n rows):=by
 have hcel:∀i,i<rows.length->(ep n rows).cel.getD i []=kM (rows.getD i av):=by
  intro i hi
  unfold ep
  dsimp only
  rw[am [] (by simpa using hi),List.getElem_map,am av hi]
 have hbas:∀i,i<rows.length->(ep n rows).bas.getD i 0=(n:Int)+(i:Int):=by
  intro i hi
  unfold ep
  dsimp only
  rw[am 0 (by simpa using hi),List.getElem_map,List.getElem_range]
 have hfre:∀j,j<n->(ep n rows).fre.getD j 0=(j:Int):=by
  intro j hj
  unfold ep
  dsimp only
  rw[am 0 (by simpa using hj),List.getElem_map,List.getElem_range]
 refine⟨rfl,by simp[ep],by simp[ep],by simp[ep],fun i hi=>?_,by simp[ep],fun i j hi hj=>?_,?_,?_⟩
 ·rw[hcel i hi,kM,List.length_cons,hw i hi]
 ·unfold cl
  rw[hcel i hi]
  exact hb i hi j (by rw[kM,List.length_cons,hw i hi];omega)
 ·have e:(List.range (n+rows.length)).map (fun z:Nat=>(z:Int))=(ep n rows).fre++(ep n rows).bas:=by
   unfold ep
   dsimp only
   rw[List.range_add,List.map_append,List.map_map]
   congr 1
  rw[e]
  exact List.perm_append_comm
 ·have hcol:∀k,k<rows.length->∀l,l<rows.length->rK n rows (ep n rows) k l=uh k l:=by
   intro k hk l hl
   unfold rK jB uh
   rw[hbas k hk,if_neg (by omega)]
   by_cases e:k=l
   ·rw[if_pos (by omega),if_pos e]
   ·rw[if_neg (by omega),if_neg e]
  refine⟨fun j hj l hl=>?_, .inl ?_,by simp[ep]⟩
  ·rw[gm (r:=l) hl]
   ·rw[hcol l hl l hl]
    unfold uh cl
    rw[hcel l hl,if_pos rfl]
    show(1:Int)*_=_
    cases j with
    |zero=>simp[uQ,kM]
    |succ j=>
     have:uQ n rows (ep n rows) (j+1) l=-(rows.getD l av).coef.getD j 0:=by
      show jB n rows _ l=_
      rw[hfre j (by omega)]
      unfold jB
      rw[if_pos (by omega),tN]
     rw[this]
     simp[kM]
   ·intro i hi hne
    rw[hcol i hi l hl]
    unfold uh
    rw[if_neg hne,Int.mul_zero]
  ·show(1:Int)=_
   rw[iV _ _ uh fun k c hk hc=>hcol k hk c hc,DF]
theorem Fi {a b:List Int} {r s:Nat} (hr:r<a.length) (hs:s<b.length):(a.set r (b.getD s 0)++b.set s (a.getD r 0)).Perm (a++b):=by
 have e:a.set r (b.getD s 0)++b.set s (a.getD r 0)=((a++b).set r (b.getD s 0)).set (a.length+s) (a.getD r 0):=by
  rw[List.set_append_left _ _ hr,List.set_append_right _ _ (by simp),List.length_set,Nat.add_sub_cancel_left]
 have h1:(a++b)[r]'(by simp;omega)=a.getD r 0:=by rw[List.getElem_append_left hr,am 0 hr]
 have h2:(a++b)[a.length+s]'(by simp;omega)=b.getD s 0:=by
  rw[List.getElem_append_right (by omega),am 0 hs]
  congr 1;omega
 rw[e,<-h1,<-h2]
 exact List.set_set_perm (by simp;omega) (by simp;omega)
theorem Pj {m n:Nat} {rows:List br} {t:b7} (h:eO m n rows t) {r s:Nat} (hr:r<m) (hs:s<n) (hp:0<cl t r (s+1)) (hb:Fw m n t r s):eO m n rows (so m n t r s):=by
 have hcl:∀i j,i<m->j<n+1->cl (so m n t r s) i j=if i=r then(if j=s+1 then t.den else-cl t r j) else l9 t r s i j:=fun i j hi hj=>MU hi hj
 have hcr:=h.cb r (s+1) hr (by omega)
 refine⟨h.rl,by simp[so,h.bl],by simp[so,h.fl],by simp[so],fun i hi=>?_,⟨hp,hcr.2⟩,fun i j hi hj=>?_,?_,?_⟩
 ·unfold so
  dsimp only
  rw[am [] (by simpa using hi),List.getElem_map]
  simp
 ·rw[hcl i j hi hj]
  split
  ·split
   ·have:=h.dp;unfold ct;omega
   ·have:=h.cb r j hr hj;unfold ct at*;omega
  ·rename_i hne
   exact hb i hi hne j hj
 ·exact(Fi (by rw[h.bl];exact hr) (by rw[h.fl];exact hs)).trans h.pm
 ·have hex:∀i j,i<m->j<n+1->i≠r->j≠s+1->cl t r (s+1)*cl t i j-cl t i (s+1)*cl t r j=t.den*l9 t r s i j:=by
   intro i j hi hj h1 h2
   obtain⟨e,he⟩:=h.tb.exact hr (show s+1<n+1 by omega) hi hj h1
   unfold l9
   rw[if_neg h2,he,Int.mul_tdiv_cancel_left _ (by have:=h.dp;omega)]
  have:=h.tb.pivot hr (show s+1<n+1 by omega) (by omega) hex
  have eB:bg (rK n rows t) r (uQ n rows t (s+1))=rK n rows (so m n t r s):=by
   funext k l
   unfold bg rK so
   dsimp only
   by_cases e:k=r
   ·subst e
    rw[if_pos rfl]
    have:(t.bas.set k (t.fre.getD s 0)).getD k 0=t.fre.getD s 0:=by
     rw[gD,List.getElem?_set_self (by rw[h.bl];exact hr)];rfl
    rw[this]
    rfl
   ·rw[if_neg e]
    have:(t.bas.set r (t.fre.getD s 0)).getD k 0=t.bas.getD k 0:=by
     rw[gD,List.getElem?_set_ne (fun h=>e h.symm),<-gD]
    rw[this]
  have eF:bg (uQ n rows t) (s+1) (rK n rows t r)=uQ n rows (so m n t r s):=by
   funext k l
   unfold bg
   by_cases e:k=s+1
   ·subst e
    rw[if_pos rfl]
    show jB n rows (t.bas.getD r 0) l=jB n rows ((t.fre.set s (t.bas.getD r 0)).getD s 0) l
    have:(t.fre.set s (t.bas.getD r 0)).getD s 0=t.bas.getD r 0:=by
     rw[gD,List.getElem?_set_self (by rw[h.fl];exact hs)];rfl
    rw[this]
   ·rw[if_neg e]
    cases k with
    |zero=>rfl
    |succ k=>
     show jB n rows (t.fre.getD k 0) l=jB n rows ((t.fre.set s (t.bas.getD r 0)).getD k 0) l
     have:(t.fre.set s (t.bas.getD r 0)).getD k 0=t.fre.getD k 0:=by
      rw[gD,List.getElem?_set_ne (by omega),<-gD]
     rw[this]
  rw[eB,eF] at this
  refine⟨fun j hj l hl=>?_,this.det,this.ne⟩
  have e:=this.rel j hj l hl
  show cl t r (s+1)*_=_
  rw[e]
  refine aM fun k hk=>?_
  rw[hcl k j hk hj]
  unfold ui
  congr 2
  split
  ·rfl
  ·unfold l9
   split
   ·subst_vars;rfl
   ·rfl
theorem DH {m n:Nat} {rows:List br}:∀(k:Nat) {t t':b7} {b:Int},eO m n rows t->Fh m n k t=some (t',b)->
  eO m n rows t'/\((b=-1/\∀i,i<m->0<=cl t' i 0)\/((0<=b/\b<m)/\cl t' b.toNat 0<0/\∀j,j<n->cl t' b.toNat (j+1)<=0))
 |0,_,_,_,_,h=>by cases h
 |k+1,t,t',b,h,e=>by
  rw[Fh] at e
  have h1:=sq t m
  split at e
  ·rename_i hl
   cases e
   exact⟨h, .inl ⟨rfl,fun i hi=>z4 t m hl i hi⟩⟩
  ·rename_i hl
   have h2:=sr t (ja t m).toNat n
   split at e
   ·rename_i he
    cases e
    exact⟨h, .inr ⟨⟨by omega,by omega⟩,DG t m (by omega),fun j hj=>z5 t _ n he j hj⟩⟩
   ·rename_i he
    split at e
    ·rename_i hb
     exact DH k (Pj h (by omega) (by omega) (xT t _ n (by omega)) hb) e
    ·cases e
def j7 (f:Int->Int):List Int->Int
 |[]=>0
 |a::l=>f a+j7 f l
theorem uj (f:Int->Int) (l m:List Int):j7 f (l++m)=j7 f l+j7 f m:=by
 induction l with
 |nil=>simp[j7]
 |cons a l ih=>rw[List.cons_append,j7,j7,ih];omega
theorem Fj {f:Int->Int} {l m:List Int} (h:l.Perm m):j7 f l=j7 f m:=by
 induction h with
 |nil=>rfl
 |cons a _ ih=>rw[j7,j7,ih]
 |swap a b l=>rw[j7,j7,j7,j7];omega
 |trans _ _ h1 h2=>rw[h1,h2]
theorem vW (f:Int->Int) (l:List Int):ay l.length (fun k=>f (l.getD k 0))=j7 f l:=by
 have key:∀n,n<=l.length->ay n (fun k=>f (l.getD k 0))=j7 f (l.take n):=by
  intro n
  induction n with
  |zero=>intro _;rfl
  |succ n ih=>
   intro h
   rw[ay,ih (by omega),Mp 0 (by omega),uj,j7,j7]
   omega
 rw[key _ (Nat.le_refl _),List.take_length]
theorem B3 (f:Int->Int) (n:Nat):j7 f ((List.range n).map fun z:Nat=>(z:Int))=ay n fun z=>f (z:Int):=by
 induction n with
 |zero=>rfl
 |succ n ih=>rw[List.range_succ,List.map_append,uj,ih,ay];simp[j7]
theorem oB (n m:Nat) (f:Nat->Int):ay (n+m) f=ay n f+ay m fun i=>f (n+i):=by
 induction m with
 |zero=>simp[ay]
 |succ m ih=>rw[<-Nat.add_assoc,ay,ih,ay];omega
theorem p5 (c x:List Int) (n:Nat):dw c x n=ay n fun k=>c.getD k 0*x.getD k 0:=by
 induction n with
 |zero=>rfl
 |succ n ih=>rw[dw,ay,ih]
section
variable {m n:Nat} {rows:List br} {t:b7}
theorem DI (h:eO m n rows t) (Z:Int->Int) {l:Nat} (hl:l<m):
  (ay m fun k=>Z (t.bas.getD k 0)*jB n rows (t.bas.getD k 0) l)+(ay n fun j=>Z (t.fre.getD j 0)*jB n rows (t.fre.getD j 0) l)=Z ((n:Int)+(l:Int))-ay n fun x=>(rows.getD l av).coef.getD x 0*Z (x:Int):=by
 have e1:=vW (fun z=>Z z*jB n rows z l) t.bas
 have e2:=vW (fun z=>Z z*jB n rows z l) t.fre
 rw[h.bl] at e1
 rw[h.fl] at e2
 rw[e1,e2,<-uj,Fj h.pm,B3,oB]
 have a1:(ay n fun z=>Z (z:Int)*jB n rows (z:Int) l)=-ay n fun x=>(rows.getD l av).coef.getD x 0*Z (x:Int):=by
  have:=da n (-1) (fun x=>(rows.getD l av).coef.getD x 0*Z (x:Int))
  rw[Int.neg_mul,Int.one_mul] at this
  rw[this]
  refine aM fun x hx=>?_
  unfold jB
  rw[if_pos (by omega),tN,Int.mul_neg,Int.neg_mul,Int.one_mul,Int.mul_comm]
 have a2:(ay m fun i=>Z ((n+i:Nat):Int)*jB n rows ((n+i:Nat):Int) l)=Z ((n:Int)+(l:Int)):=by
  rw[gm (r:=l) hl]
  ·unfold jB
   rw[if_neg (by omega),if_pos (by omega),Int.mul_one]
   congr 1
  ·intro i _ hne
   unfold jB
   rw[if_neg (by omega),if_neg (by omega),Int.mul_zero]
 rw[a1,a2]
 omega
def zK (t:b7) (z:Int):Nat->Int
 |0=>0
 |k+1=>if t.bas.getD k 0=z then cl t k 0 else zK t z k
def lZ (n:Nat) (t:b7):Nat->List Int
 |0=>List.replicate n 0
 |k+1=>if t.bas.getD k 0<n then(lZ n t k).set (t.bas.getD k 0).toNat ((cl t k 0).tdiv t.den) else lZ n t k
theorem jT (n:Nat) (t:b7):∀k,(lZ n t k).length=n
 |0=>by simp[lZ]
 |k+1=>by rw[lZ];split<;>simp[jT n t k]
theorem vX (h:eO m n rows t):(t.bas++t.fre).Nodup:=by
 refine h.pm.nodup_iff.2 ?_
 rw[List.nodup_iff_pairwise_ne]
 refine List.pairwise_map.2 ?_
 exact(List.nodup_iff_pairwise_ne.1 List.nodup_range).imp fun hab e=>hab (by omega)
theorem p6 (h:eO m n rows t):∀z∈t.bas++t.fre,0<=z/\z<(n+m:Nat):=by
 intro z hz
 obtain⟨w,hw,rfl⟩:=List.mem_map.1 (h.pm.mem_iff.1 hz)
 have:=List.mem_range.1 hw
 omega
theorem DJ (h:eO m n rows t) {j:Nat} (hj:j<n):∀k,k<=m->zK t (t.fre.getD j 0) k=0
 |0,_=>rfl
 |k+1,hk=>by
  rw[zK,if_neg,DJ h hj k (by omega)]
  intro e
  have hn:=(List.nodup_append.1 (vX h)).2.2
  exact hn _ (tv (l:=t.bas) 0 (by rw[h.bl];omega)) _ (tv (l:=t.fre) 0 (by rw[h.fl];exact hj)) e
theorem Jf (h:eO m n rows t) {i:Nat} (hi:i<m):∀k,i<k->k<=m->zK t (t.bas.getD i 0) k=cl t i 0
 |0,h0,_=>by omega
 |k+1,h0,hk=>by
  rw[zK]
  by_cases e:t.bas.getD k 0=t.bas.getD i 0
  ·rw[if_pos e]
   have hn:=(List.nodup_append.1 (vX h)).1
   have hb:=h.bl
   rw[am 0 (by omega),am 0 (by omega)] at e
   rw[(List.getElem_inj hn).1 e]
  ·rw[if_neg e]
   by_cases e2:i=k
   ·subst e2;exact absurd rfl e
   ·exact Jf h hi k (by omega) (by omega)
theorem vY (h0:∀i,i<m->0<=cl t i 0) (z:Int):∀k,k<=m->0<=zK t z k
 |0,_=>by simp[zK]
 |k+1,hk=>by
  rw[zK]
  split
  ·exact h0 k (by omega)
  ·exact vY h0 z k (by omega)
theorem DK (hb:∀k,k<m->0<=t.bas.getD k 0) (z:Nat) (hz:z<n):∀k,k<=m->(lZ n t k).getD z 0=(zK t (z:Int) k).tdiv t.den
 |0,_=>by
  rw[lZ,zK,Int.zero_tdiv,gD,List.getElem?_replicate]
  split<;>rfl
 |k+1,hk=>by
  have ih:=DK hb z hz k (by omega)
  have h0:=hb k (by omega)
  rw[lZ,zK]
  by_cases e:t.bas.getD k 0=z
  ·rw[if_pos (by omega),if_pos e]
   have:(t.bas.getD k 0).toNat=z:=by omega
   rw[this,gD,List.getElem?_set_self (by rw[jT];exact hz)]
   rfl
  ·rw[if_neg e]
   split
   ·rw[gD,List.getElem?_set_ne (by omega),<-gD,ih]
   ·exact ih
theorem Pk (h:eO m n rows t) (hw:∀i,i<m->(rows.getD i av).coef.length=n) (h0:∀i,i<m->0<=cl t i 0) (hd:∀i,i<m->t.bas.getD i 0<n->(cl t i 0).tmod t.den=0):∀l,l<m->0<=kC (rows.getD l av) (lZ n t m):=by
 intro l hl
 have hb:∀k,k<m->0<=t.bas.getD k 0:=fun k hk=>(p6 h _ (List.mem_append_left _ (tv (l:=t.bas) 0 (by rw[h.bl];exact hk)))).1
 have hrel:=h.tb.rel 0 (by omega) l hl
 have hs:=DI h (fun z=>zK t z m) hl
 have e1:(ay n fun j=>zK t (t.fre.getD j 0) m*jB n rows (t.fre.getD j 0) l)=0:=fO n _ fun j hj=>by rw[DJ h hj m (Nat.le_refl _),Int.zero_mul]
 have e2:(ay m fun k=>zK t (t.bas.getD k 0) m*jB n rows (t.bas.getD k 0) l)=ay m fun k=>cl t k 0*rK n rows t k l:=aM fun k hk=>by rw[Jf h hk m hk (Nat.le_refl _)];rfl
 have e3:t.den*(rows.getD l av).const=ay m fun k=>cl t k 0*rK n rows t k l:=by
  have:=da m (-1) (fun k=>cl t k 0*rK n rows t k l)
  have e:(ay m fun k=>-1*(cl t k 0*rK n rows t k l))=ay m fun k=>-cl t k 0*rK n rows t k l:=aM fun k _=>by rw[Int.neg_mul,Int.neg_mul,Int.one_mul]
  rw[e,<-hrel] at this
  have e0:uQ n rows t 0 l=-(rows.getD l av).const:=rfl
  rw[e0,Int.mul_neg] at this
  omega
 rw[e1,e2,<-e3] at hs
 have hdiv:∀z:Nat,z<n->zK t (z:Int) m=t.den*(lZ n t m).getD z 0:=by
  intro z hz
  rw[DK hb z hz m (Nat.le_refl _)]
  have key:∀k,k<=m->(zK t (z:Int) k).tmod t.den=0:=by
   intro k
   induction k with
   |zero=>intro _;simp[zK]
   |succ k ih=>
    intro hk
    rw[zK]
    split
    ·rename_i e;exact hd k (by omega) (by omega)
    ·exact ih (by omega)
  have:=Int.mul_tdiv_add_tmod (zK t (z:Int) m) t.den
  rw[key m (Nat.le_refl _)] at this
  omega
 have e4:(ay n fun x=>(rows.getD l av).coef.getD x 0*zK t (x:Int) m)=t.den*dw (rows.getD l av).coef (lZ n t m) n:=by
  rw[p5,da]
  refine aM fun x hx=>?_
  rw[hdiv x hx,Int.mul_left_comm]
 rw[e4] at hs
 have hz:=vY h0 ((n:Int)+(l:Int)) m (Nat.le_refl _)
 unfold kC
 rw[hw l hl]
 have e5:t.den*((rows.getD l av).const+dw (rows.getD l av).coef (lZ n t m) n)=zK t ((n:Int)+(l:Int)) m:=by rw[Int.mul_add];omega
 refine Classical.byContradiction fun hneg=>?_
 have:=Int.mul_neg_of_pos_of_neg h.dp.1 (show(rows.getD l av).const+dw (rows.getD l av).coef (lZ n t m) n<0 by omega)
 omega
def lN (n:Nat) (rows:List br) (x:List Int) (z:Int):Int:=if z<n then x.getD z.toNat 0 else kC (rows.getD (z-n).toNat av) x
theorem LV (h:eO m n rows t) (hw:∀i,i<m->(rows.getD i av).coef.length=n) (x:List Int) {r:Nat} (hr:r<m):
  t.den*lN n rows x (t.bas.getD r 0)=cl t r 0+ay n fun j=>cl t r (j+1)*lN n rows x (t.fre.getD j 0):=by
 have key:=h.tb.rows (zb:=fun k=>lN n rows x (t.bas.getD k 0)) (zf:=fun j=>match j with|0=>1|j+1=>lN n rows x (t.fre.getD j 0)) (fun l hl=>by
  have hs:=DI h (lN n rows x) hl
  have e1:(ay (n+1) fun j=>(match j with|0=>1|j+1=>lN n rows x (t.fre.getD j 0))*uQ n rows t j l)=-(rows.getD l av).const+ay n fun j=>lN n rows x (t.fre.getD j 0)*jB n rows (t.fre.getD j 0) l:=by
   rw[Nat.add_comm,oB]
   have a:(ay 1 fun j=>(match j with|0=>1|j+1=>lN n rows x (t.fre.getD j 0))*uQ n rows t j l)=-(rows.getD l av).const:=by
    show 0+1*uQ n rows t 0 l=_
    rw[Int.zero_add,Int.one_mul];rfl
   rw[a]
   congr 1
   refine aM fun j _=>?_
   rw[Nat.add_comm]
   rfl
  rw[e1]
  have e2:(ay n fun i=>(rows.getD l av).coef.getD i 0*lN n rows x (i:Int))=dw (rows.getD l av).coef x n:=by
   rw[p5]
   refine aM fun i hi=>?_
   unfold lN
   rw[if_pos (by omega),tN]
  have e3:lN n rows x ((n:Int)+(l:Int))=(rows.getD l av).const+dw (rows.getD l av).coef x n:=by
   unfold lN
   rw[if_neg (by omega),show((n:Int)+(l:Int)-n).toNat=l by omega]
   unfold kC
   rw[hw l hl]
  rw[e2,e3] at hs
  show(ay m fun k=>lN n rows x (t.bas.getD k 0)*jB n rows (t.bas.getD k 0) l)+_=0
  omega) r hr
 rw[key,Nat.add_comm n 1,oB]
 congr 1
 ·show 0+cl t r 0*1=_
  omega
 ·refine aM fun j _=>?_
  rw[Nat.add_comm]
def Jg (n:Nat) (t:b7) (r:Nat):Int×Int:=if t.bas.getD r 0<n then(-1-t.bas.getD r 0,t.den) else(t.bas.getD r 0-n,t.den)
def cN (n:Nat) (t:b7) (r:Nat):Nat->List (Int×Int)
 |0=>[Jg n t r]
 |k+1=>if(n:Int)<=t.fre.getD k 0/\0< -cl t r (k+1) then cN n t r k++[(t.fre.getD k 0-n,-cl t r (k+1))] else cN n t r k
def xU (n:Nat) (rows:List br) (x:List Int) (a:Int×Int):Int:=a.2*if a.1<0 then x.getD (-1-a.1).toNat 0 else kC (rows.getD a.1.toNat av) x
def l0 (n:Nat) (rows:List br) (x:List Int):List (Int×Int)->Int
 |[]=>0
 |a::l=>xU n rows x a+l0 n rows x l
theorem z6 (x:List Int) (l k:List (Int×Int)):l0 n rows x (l++k)=l0 n rows x l+l0 n rows x k:=by
 induction l with
 |nil=>simp[l0]
 |cons a l ih=>rw[List.cons_append,l0,l0,ih];omega
theorem Pl (h:eO m n rows t) (hw:∀i,i<m->(rows.getD i av).coef.length=n) (x:List Int) {r:Nat} (hr:r<m) (hneg:∀j,j<n->cl t r (j+1)<=0):
  l0 n rows x (cN n t r n)=cl t r 0+ay n fun j=>if t.fre.getD j 0<n then cl t r (j+1)*x.getD (t.fre.getD j 0).toNat 0 else 0:=by
 have hrow:=LV h hw x hr
 have hb:=p6 h _ (List.mem_append_left _ (tv (l:=t.bas) 0 (by rw[h.bl];exact hr)))
 have hA:l0 n rows x [Jg n t r]=t.den*lN n rows x (t.bas.getD r 0):=by
  unfold Jg
  rw[l0,l0,Int.add_zero]
  unfold lN
  split
  ·unfold xU
   dsimp only
   rw[if_pos (by omega),show(-1-(-1-t.bas.getD r 0)).toNat=(t.bas.getD r 0).toNat by omega]
  ·unfold xU
   dsimp only
   rw[if_neg (by omega)]
 have key:∀k,k<=n->l0 n rows x (cN n t r k)=t.den*lN n rows x (t.bas.getD r 0)+ay k fun j=>if(n:Int)<=t.fre.getD j 0 then-(cl t r (j+1)*lN n rows x (t.fre.getD j 0)) else 0:=by
  intro k
  induction k with
  |zero=>intro _;rw[cN,hA,ay];omega
  |succ k ih=>
   intro hk
   rw[cN,ay]
   have hk0:=hneg k (by omega)
   by_cases h1:(n:Int)<=t.fre.getD k 0
   ·rw[if_pos h1]
    by_cases h2:0< -cl t r (k+1)
    ·rw[if_pos ⟨h1,h2⟩,z6,ih (by omega),l0,l0]
     unfold xU lN
     dsimp only
     rw[if_neg (show¬t.fre.getD k 0<n by omega),if_neg (show¬t.fre.getD k 0-n<0 by omega),Int.neg_mul]
     omega
    ·rw[if_neg (fun h=>h2 h.2),ih (by omega)]
     have:cl t r (k+1)=0:=by omega
     rw[this,Int.zero_mul]
     omega
   ·rw[if_neg (fun h=>h1 h.1),if_neg h1,ih (by omega)]
    omega
 rw[key n (Nat.le_refl _),hrow,Int.add_assoc,<-pZ]
 congr 1
 refine aM fun j _=>?_
 by_cases h1:t.fre.getD j 0<n
 ·rw[if_neg (by omega),if_pos h1]
  unfold lN
  rw[if_pos h1]
  omega
 ·rw[if_pos (by omega),if_neg h1]
  omega
theorem Jh {x:List Int} {d:l8} (hx:mR n rows):∀i,(∀k,k<i->rH n rows.length d k)->tT rows d i+dw (i8 n rows d i) x n=ay i fun k=>xU n rows x (d.src.getD k 0,d.mult.getD k 0)
 |0,_=>by rw[tT,i8,zw,ay];rfl
 |i+1,ht=>by
  have ih:=Jh (x:=x) hx i fun k hk=>ht k (by omega)
  have hi:=ht i (by omega)
  have hl:=lF n rows d i
  rw[tT,i8,ay]
  unfold xU at ih⊢
  dsimp only at ih⊢
  split
  ·rename_i hs
   rw[C9 (by have:=hi.1;omega),if_pos (by have:=hi.1;omega),<-ih]
   have e:(i8 n rows d i).getD (-1-d.src.getD i 0).toNat 0+d.mult.getD i 0-(i8 n rows d i).getD (-1-d.src.getD i 0).toNat 0=d.mult.getD i 0:=by omega
   rw[e]
   omega
  ·rename_i hs
   have hn:(d.src.getD i 0).toNat<rows.length:=by have:=hi.1;omega
   rw[Da n (Nat.le_refl _),<-ih]
   unfold kC
   rw[(hx _ hn).1,Int.mul_add]
   omega
theorem Ji (x:List Int) (l:List (Int×Int)):l0 n rows x l=ay l.length fun k=>xU n rows x (l.getD k (0,0)):=by
 have key:∀k,k<=l.length->l0 n rows x (l.take k)=ay k fun k=>xU n rows x (l.getD k (0,0)):=by
  intro k
  induction k with
  |zero=>intro _;rfl
  |succ k ih=>
   intro h
   rw[Mp (0,0) (by omega),z6,ih (by omega),ay,l0,l0]
   omega
 rw[<-key _ (Nat.le_refl _),List.take_length]
theorem Pm (h:eO m n rows t) (hw:∀i,i<m->(rows.getD i av).coef.length=n) (hx:mR n rows) {r:Nat} (hr:r<m) (hneg:∀j,j<n->cl t r (j+1)<=0) (h0:cl t r 0<0) {g:Int} (hg:0<g) {d:l8} (hdiv:d.div=1)
  (hs:d.src=(cN n t r n).map (·.1)) (hm:d.mult.length=d.src.length) (hgm:∀k,k<d.mult.length->g*d.mult.getD k 0=((cN n t r n).getD k (0,0)).2) (hd:x7 n rows d):zu (od n rows d):=by
 have hlen:d.src.length=(cN n t r n).length:=by rw[hs];simp
 have key:∀x:List Int,g*(tT rows d d.src.length+dw (i8 n rows d d.src.length) x n)=cl t r 0+ay n fun j=>if t.fre.getD j 0<n then cl t r (j+1)*x.getD (t.fre.getD j 0).toNat 0 else 0:=by
  intro x
  rw[Jh hx _ hd.2.1,<-Pl h hw x hr hneg,Ji,<-hlen,da]
  refine aM fun k hk=>?_
  have e:d.src.getD k 0=((cN n t r n).getD k (0,0)).1:=by
   rw[am 0 hk,am (0,0) (by omega)]
   simp only[hs,List.getElem_map]
  unfold xU
  dsimp only
  rw[<-Int.mul_assoc,hgm k (by omega),e]
 have hz:tT rows d d.src.length<0:=by
  have:=key []
  have e1:dw (i8 n rows d d.src.length) [] n=0:=by
   rw[p5];exact fO n _ fun k _=>by simp
  have e2:(ay n fun j=>if t.fre.getD j 0<n then cl t r (j+1)*([]:List Int).getD (t.fre.getD j 0).toNat 0 else 0)=0:=fO n _ fun k _=>by simp
  rw[e1,e2] at this
  refine Classical.byContradiction fun hn=>?_
  have:=Int.mul_nonneg (show 0<=g by omega) (show 0<=tT rows d d.src.length by omega)
  simp only[Int.add_zero] at*
  omega
 refine⟨fun z hz'=>?_,?_⟩
 ·have hzn:z<n:=by unfold od at hz';simpa[lF] using hz'
  have e:(od n rows d).coef.getD z 0=(i8 n rows d d.src.length).getD z 0:=by
   unfold od
   dsimp only
   rw[am 0 (by simp[lF,hzn]),List.getElem_map,am 0 (by rw[lF];exact hzn),hdiv,Int.tdiv_one]
  rw[e]
  have k1:=key ((List.replicate n 0).set z 1)
  have k0:=key []
  have e1:dw (i8 n rows d d.src.length) [] n=0:=by
   rw[p5];exact fO n _ fun k _=>by simp
  have e2:(ay n fun j=>if t.fre.getD j 0<n then cl t r (j+1)*([]:List Int).getD (t.fre.getD j 0).toNat 0 else 0)=0:=fO n _ fun k _=>by simp
  rw[e1,e2] at k0
  have hget:∀i:Nat,((List.replicate n (0:Int)).set z 1).getD i 0=if i=z then 1 else 0:=by
   intro i
   by_cases e:i=z
   ·subst e
    rw[if_pos rfl,gD,List.getElem?_set_self (by simpa using hzn)];rfl
   ·rw[if_neg e,gD,List.getElem?_set_ne (fun h=>e h.symm),List.getElem?_replicate]
    split<;>rfl
  have e3:dw (i8 n rows d d.src.length) ((List.replicate n 0).set z 1) n=(i8 n rows d d.src.length).getD z 0:=by
   rw[p5,gm (r:=z) hzn]
   ·rw[hget,if_pos rfl,Int.mul_one]
   ·intro i _ hi
    rw[hget,if_neg hi,Int.mul_zero]
  have e4:(ay n fun j=>if t.fre.getD j 0<n then cl t r (j+1)*((List.replicate n (0:Int)).set z 1).getD (t.fre.getD j 0).toNat 0 else 0)<=0:=by
   have:∀k,k<=n->(ay k fun j=>if t.fre.getD j 0<n then cl t r (j+1)*((List.replicate n (0:Int)).set z 1).getD (t.fre.getD j 0).toNat 0 else 0)<=0:=by
    intro k
    induction k with
    |zero=>intro _;simp[ay]
    |succ k ih=>
     intro hk
     have a:=ih (by omega)
     have b:=hneg k (by omega)
     rw[ay,hget]
     split
     ·split
      ·omega
      ·omega
     ·omega
   exact this n (Nat.le_refl _)
  rw[e3,Int.mul_add] at k1
  simp only[Int.add_zero] at k0
  refine Classical.byContradiction fun hn=>?_
  have:=Int.mul_pos hg (show 0<(i8 n rows d d.src.length).getD z 0 by omega)
  omega
 ·unfold od Ln
  dsimp only
  rw[hdiv,Int.tmod_one,if_neg (by omega),Int.tdiv_one]
  exact hz
end
end
section
set_option maxRecDepth 100000
set_option maxHeartbeats 8000000
def gn (l:List (Int×Int)):Nat->Int
 |0=>0
 |k+1=>(Int.gcd (gn l k) (l.getD k (0,0)).2:Int)
def vZ (n:Nat) (t:b7) (r:Nat):l8:=⟨(cN n t r n).map (·.1),(cN n t r n).map (fun a=>a.2.tdiv (gn (cN n t r n) (cN n t r n).length)),1⟩
def Ar (n:Nat) (t:b7) (r:Nat):Option l8:=
 if(∃j,j<(cN n t r n).length/\65536<(vZ n t r).mult.getD j 0)\/64<(cN n t r n).length then none else some (vZ n t r)
theorem DL (l:List (Int×Int)):∀k j,j<k->gn l k ∣ (l.getD j (0,0)).2
 |0,j,h=>by omega
 |k+1,j,h=>by
  rw[gn]
  by_cases e:j=k
  ·subst e;exact Int.gcd_dvd_right ..
  ·exact Int.dvd_trans (Int.gcd_dvd_left ..) (DL l k j (by omega))
theorem ss {l:List (Int×Int)} (h0:0<(l.getD 0 (0,0)).2):∀k,0<k->0<gn l k
 |0,h=>by omega
 |k+1,_=>by
  rw[gn]
  by_cases e:k=0
  ·subst e
   rw[gn]
   have:=Int.gcd_zero_left (a:=(l.getD 0 (0,0)).2)
   omega
  ·have:=ss h0 k (by omega)
   have:Int.gcd (gn l k) (l.getD k (0,0)).2≠0:=fun hh=>by
    have:=(Int.gcd_eq_zero_iff.1 hh).1
    omega
   omega
theorem p7 (n:Nat) (t:b7) (r:Nat):∀k,0<(cN n t r k).length/\(cN n t r k).getD 0 (0,0)=Jg n t r
 |0=>by simp[cN]
 |k+1=>by
  obtain⟨a,b⟩:=p7 n t r k
  rw[cN]
  split
  ·refine⟨by rw[List.length_append];omega,?_⟩
   rw[gD,List.getElem?_append_left a,<-gD]
   exact b
  ·exact⟨a,b⟩
theorem p8 (n:Nat) (t:b7) (r:Nat) {k:Nat} (hk:k<(cN n t r n).length):(vZ n t r).mult.getD k 0=((cN n t r n).getD k (0,0)).2.tdiv (gn (cN n t r n) (cN n t r n).length):=by
 unfold vZ
 dsimp only
 rw[am 0 (by simpa using hk),List.getElem_map,am (0,0) hk]
section
variable {m n:Nat} {rows:List br} {t:b7}
theorem LW (h:eO m n rows t) (hw:∀i,i<m->(rows.getD i av).coef.length=n) (hx:mR n rows) {r:Nat} (hr:r<m) (hneg:∀j,j<n->cl t r (j+1)<=0) (h0:cl t r 0<0) (hd:x7 n rows (vZ n t r)):zu (od n rows (vZ n t r)):=by
 have hh:=p7 n t r n
 have hA:0<(Jg n t r).2:=by unfold Jg;split<;>exact h.dp.1
 have hg:0<gn (cN n t r n) (cN n t r n).length:=ss (by rw[hh.2];exact hA) _ hh.1
 refine Pm h hw hx hr hneg h0 hg (d:=vZ n t r) rfl rfl (by unfold vZ;simp) (fun k hk=>?_) hd
 have hk':k<(cN n t r n).length:=by unfold vZ at hk;simpa using hk
 rw[p8 n t r hk']
 exact Int.mul_tdiv_cancel' (DL _ _ _ hk')
def ca (n:Nat) (t:b7):Nat->Int×Int
 |0=>(-1,0)
 |i+1=>if t.bas.getD i 0<n/\(cl t i 0).tmod t.den≠0/\((ca n t i).1<0\/t.bas.getD i 0<(ca n t i).1) then(t.bas.getD i 0,(cl t i 0).tdiv t.den) else ca n t i
theorem su (hb:∀i,i<m->0<=t.bas.getD i 0) (hd:0<t.den) (h0:∀i,i<m->0<=cl t i 0):∀k,k<=m->-1<=(ca n t k).1/\(ca n t k).1<n/\0<=(ca n t k).2
 |0,_=>by
  rw[ca]
  dsimp only
  omega
 |k+1,hk=>by
  have ih:=su hb hd h0 k (by omega)
  rw[ca]
  split
  ·rename_i hc
   have:=hb k (by omega)
   refine⟨by dsimp only;omega,hc.1,?_⟩
   exact Int.tdiv_nonneg (h0 k (by omega)) (by omega)
  ·exact ih
theorem z7 (hb:∀i,i<m->0<=t.bas.getD i 0):∀k,k<=m->(ca n t k).1<0->∀i,i<k->t.bas.getD i 0<n->(cl t i 0).tmod t.den=0
 |0,_,_,i,hi,_=>by omega
 |k+1,hk,h,i,hi,hn=>by
  rw[ca] at h
  split at h
  ·rename_i hc
   have:=hb k (by omega)
   dsimp only at h
   omega
  ·rename_i hc
   by_cases e:i=k
   ·subst e
    refine Classical.byContradiction fun hm=>hc ⟨hn,hm, .inl h⟩
   ·exact z7 hb k (by omega) h i (by omega) hn
end
structure Br where
 rows:List br
 nodes:List gC
 lines:Nat
 left:Nat
 point:Option (List Int)
 gave:Bool
def iW:gC:=⟨[],-1,0,0,0⟩
def Br.give (b:Br):Br:={b with gave:=true}
def bZ (b:Br):Br:={b with nodes:=b.nodes++[iW],left:=b.left-1}
def l5 (n i:Nat) (b:Br) (d:l8):Br×Bool:=
 if x7 n b.rows d/\b.lines≠400 then
  ({b with rows:=b.rows++[od n b.rows d],lines:=b.lines+1,nodes:=b.nodes.set i {b.nodes.getD i aw with lines:=(b.nodes.getD i aw).lines++[d]}},true)
 else(b.give,false)
def LX (r:br):Nat->Int
 |0=>0
 |k+1=>(Int.gcd (LX r k) (r.coef.getD k 0):Int)
def oD (r:br):Int:=LX r r.coef.length
def iK (n:Nat) (b:Br):Nat->Br×Bool
 |0=>(b,true)
 |k+1=>
  if(iK n b k).2=false then iK n b k
  else if 1<oD (b.rows.getD k av)/\(b.rows.getD k av).const.tmod (oD (b.rows.getD k av))≠0 then l5 n 0 (iK n b k).1 ⟨[(k:Int)],[1],oD (b.rows.getD k av)⟩
  else iK n b k
def gp (i:Nat) (v a l:Int) (b:Br):Br:={b with nodes:=b.nodes.set i {b.nodes.getD i aw with var:=v,at_:=a,left:=l}}
def gF (i:Nat) (v a r:Int) (b:Br):Br:={b with nodes:=b.nodes.set i {b.nodes.getD i aw with var:=v,at_:=a,right:=r}}
def Br.put (b:Br) (l:List br) (r:br):Br:={b with rows:=l++[r]}
def Br.cut (b:Br) (m:Nat):Br:={b with rows:=b.rows.take m}
def ma (n:Nat):Nat->Br->Nat->Br
 |0,b,_=>b.give
 |k+1,b0,i=>
  let s:=if i=0 then iK n b0 b0.rows.length else(b0,true)
  let b:=s.1
  if s.2=false then b
  else if kF b.rows then b
  else if¬z3 b.rows then b.give
  else match Fh b.rows.length n 5000 (ep n b.rows) with
   |none=>b.give
   |some (t,bad)=>
    if 0<=bad then
     match Ar n t bad.toNat with
     |none=>b.give
     |some d=>(l5 n i b d).1
    else
     let v:=(ca n t b.rows.length).1
     let a:=(ca n t b.rows.length).2
     if v<0 then(if jz (lZ n t b.rows.length) then{b with point:=some (lZ n t b.rows.length)} else b.give)
     else if 1048576<a then b.give
     else if b.left=0 then b.give
     else
      let c:=(ma n k ((gp i v a b.nodes.length (bZ b)).put b.rows (jr n v a)) b.nodes.length).cut b.rows.length
      if c.point.isSome=true\/c.gave=true then c
      else if c.left=0 then c.give
      else(ma n k ((gF i v a c.nodes.length (bZ c)).put b.rows (jA n v (a+1))) c.nodes.length).cut b.rows.length
def jv (s:dN) (nodes:Int):Br:=ma s.vars.toNat 401 ⟨s.rows,[iW],0,(min nodes 400-1).toNat,none,false⟩ 0
theorem v4 {n:Nat} {rows:List br} {l l':List l8}:∀{k:Nat},(∀j,j<k->l.getD j E1=l'.getD j E1)->An n rows l k=An n rows l' k
 |0,_=>rfl
 |k+1,h=>by rw[An,An,v4 fun j hj=>h j (by omega),h k (by omega)]
theorem eP {α:Type} {l m:List α} {k:Nat} (d:α) (h:k<l.length):(l++m).getD k d=l.getD k d:=by
 rw[gD,List.getElem?_append_left h,<-gD]
theorem nz {α:Type} {l:List α} {a d:α}:(l++[a]).getD l.length d=a:=by
 rw[gD,List.getElem?_append_right (Nat.le_refl _),Nat.sub_self];rfl
theorem gS {α:Type} {l:List α} {k:Nat} {a d:α} (h:k<l.length):(l.set k a).getD k d=a:=by
 rw[gD,List.getElem?_set_self h];rfl
theorem QY {α:Type} {l:List α} {k j:Nat} {a d:α} (h:k≠j):(l.set k a).getD j d=l.getD j d:=by
 rw[gD,List.getElem?_set_ne h,<-gD]
theorem z8 {n:Nat} {rows a:List br} {l:List l8} {d:l8} (h:An n rows l l.length=some a) (hd:x7 n a d):An n rows (l++[d]) (l++[d]).length=some (a++[od n a d]):=by
 rw[List.length_append,List.length_singleton,An,v4 (l':=l) fun j hj=>eP _ hj,h]
 dsimp only
 rw[nz,if_pos hd]
structure fv (n i:Nat) (b b':Br):Prop where
 len:b'.nodes.length=b.nodes.length
 oth:∀j,j≠i->b'.nodes.getD j aw=b.nodes.getD j aw
 lft:b'.left=b.left
 pt:b'.point=b.point
 var:(b'.nodes.getD i aw).var=(b.nodes.getD i aw).var
 lin:b'.lines+(b.nodes.getD i aw).lines.length=b.lines+(b'.nodes.getD i aw).lines.length
 lmx:b.lines<=400->b'.lines<=400
 rows:∃m,b'.rows=b.rows++m
 rdy:mR n b.rows->mR n b'.rows
theorem fv.refl (n i:Nat) (b:Br):fv n i b b:=⟨rfl,fun _ _=>rfl,rfl,rfl,rfl,rfl,fun h=>h,⟨[],by simp⟩,fun h=>h⟩
theorem fv.trans {n i:Nat} {a b c:Br} (h:fv n i a b) (k:fv n i b c):fv n i a c:=by
 obtain⟨m1,e1⟩:=h.rows
 obtain⟨m2,e2⟩:=k.rows
 exact⟨k.len.trans h.len,fun j hj=>(k.oth j hj).trans (h.oth j hj),k.lft.trans h.lft,k.pt.trans h.pt,k.var.trans h.var,by have:=h.lin;have:=k.lin;omega,fun hh=>k.lmx (h.lmx hh),⟨m1++m2,by rw[e2,e1,List.append_assoc]⟩,fun hh=>k.rdy (h.rdy hh)⟩
theorem fv.give (n i:Nat) (b:Br):fv n i b b.give:=⟨rfl,fun _ _=>rfl,rfl,rfl,rfl,rfl,fun h=>h,⟨[],by simp[Br.give]⟩,fun h=>h⟩
theorem DM {n i:Nat} {b:Br} {d:l8} (hi:i<b.nodes.length):fv n i b (l5 n i b d).1/\(((l5 n i b d).2=false/\(l5 n i b d).1.gave=true)\/
  ((l5 n i b d).2=true/\(l5 n i b d).1.gave=b.gave/\x7 n b.rows d/\(l5 n i b d).1.rows=b.rows++[od n b.rows d]/\((l5 n i b d).1.nodes.getD i aw).lines=(b.nodes.getD i aw).lines++[d])):=by
 unfold l5
 split
 ·rename_i hc
  refine⟨⟨by simp,fun j hj=>QY fun e=>hj e.symm,rfl,rfl,by dsimp only;rw[gS hi],?_,fun h=>by dsimp only;omega,⟨[od n b.rows d],rfl⟩,fun h=>nq h (C7 hc.1)⟩, .inr ⟨rfl,rfl,hc.1,rfl,by dsimp only;rw[gS hi]⟩⟩
  dsimp only
  rw[gS hi]
  simp only[List.length_append,List.length_cons,List.length_nil]
  omega
 ·exact⟨fv.give n i b, .inl ⟨rfl,rfl⟩⟩
theorem xV {n:Nat} {b:Br} (hi:0<b.nodes.length) (h0:(b.nodes.getD 0 aw).lines=[]) (hg:b.gave=false):∀k,k<=b.rows.length->fv n 0 b (iK n b k).1/\(((iK n b k).2=false/\(iK n b k).1.gave=true)\/
  ((iK n b k).2=true/\(iK n b k).1.gave=false/\An n b.rows ((iK n b k).1.nodes.getD 0 aw).lines ((iK n b k).1.nodes.getD 0 aw).lines.length=some (iK n b k).1.rows))
 |0,_=>⟨fv.refl n 0 b, .inr ⟨rfl,hg,by rw[iK,h0];rfl⟩⟩
 |k+1,hk=>by
  obtain⟨h1,h2⟩:=xV (n:=n) hi h0 hg k (by omega)
  rw[iK]
  split
  ·exact⟨h1,h2⟩
  ·rename_i hs
   have h2:=h2.resolve_left fun h=>hs h.1
   split
   ·rename_i hc
    obtain⟨k1,k2⟩:=DM (n:=n) (i:=0) (b:=(iK n b k).1) (d:=⟨[(k:Int)],[1],oD (b.rows.getD k av)⟩) (by rw[h1.len];exact hi)
    refine⟨h1.trans k1,?_⟩
    rcases k2 with k2|⟨k2,k3,k4,k5,k6⟩
    ·exact .inl k2
    ·refine .inr ⟨k2,k3.trans h2.2.1,?_⟩
     rw[k6,k5]
     exact z8 h2.2.2 k4
   ·exact⟨h1, .inr h2⟩
theorem v5 {A B:List gC} {c:Int} {lo:Nat}:∀{hi:Nat},lo<=hi->(∀j,lo<=j->j<hi->A.getD j aw=B.getD j aw)->lX A c hi-lX A c lo=lX B c hi-lX B c lo
 |0,h,_=>by rw[Nat.le_zero.1 h];omega
 |k+1,h,hj=>by
  by_cases e:lo=k+1
  ·subst e;omega
  ·have ih:=v5 (A:=A) (B:=B) (c:=c) (lo:=lo) (hi:=k) (by omega) fun j h1 h2=>hj j h1 (by omega)
   rw[lX,lX,hj k (by omega) (by omega)]
   omega
theorem v6 {A B:List gC} {lo:Nat}:∀{hi:Nat},lo<=hi->(∀j,lo<=j->j<hi->A.getD j aw=B.getD j aw)->iT A hi+iT B lo=iT B hi+iT A lo
 |0,h,_=>by rw[Nat.le_zero.1 h];omega
 |k+1,h,hj=>by
  by_cases e:lo=k+1
  ·subst e;omega
  ·have ih:=v6 (A:=A) (B:=B) (lo:=lo) (hi:=k) (by omega) fun j h1 h2=>hj j h1 (by omega)
   rw[iT,iT,hj k (by omega) (by omega)]
   omega
theorem Fk {n a b i:Nat} {x:gC} (h:xo n a i x) (hab:a<=b):xo n b i x:=by
 unfold xo at*
 rcases h with h|⟨h1,h2,h3,h4⟩
 ·exact .inl h
 ·exact .inr ⟨h1,h2,by omega,by omega⟩
structure iq (n i:Nat) (b b':Br):Prop where
 pre:∀j,j<i->b'.nodes.getD j aw=b.nodes.getD j aw
 len:b.nodes.length<=b'.nodes.length
 cnt:b'.nodes.length+b'.left=b.nodes.length+b.left
 lin:b'.lines+iT b'.nodes i=b.lines+iT b'.nodes b'.nodes.length
 lmx:b'.lines<=400
 rows:∃m,b'.rows=b.rows++m
 rdy:mR n b'.rows
 vld:∀j,i<=j->j<b'.nodes.length->b'.point=none->b'.gave=false->xo n b'.nodes.length j (b'.nodes.getD j aw)
 par:b'.point=none->b'.gave=false->∀c:Int,lX b'.nodes c b'.nodes.length-lX b'.nodes c i=if(i:Int)<c/\c<b'.nodes.length then 1 else 0
 clo:b'.point=none->b'.gave=false->∀(N:List gC),(∀j,i<=j->j<b'.nodes.length->N.getD j aw=b'.nodes.getD j aw)->∀f,b'.nodes.length-i<=f->BH n N f i b.rows=true
 pt:∀x,b'.point=some x->x.length=n/\jz x/\∀l,l<b.rows.length->0<=kC (b.rows.getD l av) x
structure iC (n i:Nat) (b:Br):Prop where
 len:b.nodes.length=i+1
 new:b.nodes.getD i aw=iW
 pt:b.point=none
 gv:b.gave=false
 rdy:mR n b.rows
 lmx:b.lines<=400
 n96:n<=96
theorem kN (A:List gC) (i:Nat):iT A (i+1)=iT A i+(A.getD i aw).lines.length:=by rw[iT]
theorem z9 (A:List gC) (c:Int) (i:Nat):lX A c (i+1)-lX A c i=if(A.getD i aw).var=-1 then 0 else(if(A.getD i aw).left=c then 1 else 0)+(if(A.getD i aw).right=c then 1 else 0):=by rw[lX];omega
section
variable {n i:Nat} {b b':Br}
theorem iq.leaf (h:iC n i b) (ha:fv n i b b') (hc:b'.gave=false->An n b.rows (b'.nodes.getD i aw).lines (b'.nodes.getD i aw).lines.length=some b'.rows/\kF b'.rows):iq n i b b':=by
 have hl:b'.nodes.length=i+1:=ha.len.trans h.len
 have hv:(b'.nodes.getD i aw).var=-1:=by rw[ha.var,h.new];rfl
 have h0:(b.nodes.getD i aw).lines.length=0:=by rw[h.new];rfl
 refine⟨fun j hj=>ha.oth j (by omega),by have:=ha.len;omega,by have:=ha.len;have:=ha.lft;omega,?_,ha.lmx h.lmx,ha.rows,ha.rdy h.rdy,?_,?_,?_,?_⟩
 ·rw[hl,kN]
  have:=ha.lin
  omega
 ·intro j h1 h2 _ _
  obtain rfl:j=i:=by omega
  exact .inl hv
 ·intro _ _ c
  rw[hl,z9,if_pos hv,if_neg (by omega)]
 ·intro _ hg N hN f hf
  obtain⟨e,hs⟩:=hc hg
  obtain⟨f,rfl⟩:∃f',f=f'+1:=⟨f-1,by omega⟩
  have hNi:=hN i (Nat.le_refl _) (by omega)
  rw[BH,hNi,e]
  dsimp only
  rw[if_pos hv]
  exact decide_eq_true hs
 ·intro x hx
  rw[ha.pt,h.pt] at hx
  cases hx
theorem fv.giv (h:fv n i b b'):fv n i b b'.give:=h.trans (fv.give n i b')
theorem iq.given (h:iC n i b) (ha:fv n i b b') (hg:b'.gave=true):iq n i b b':=iq.leaf h ha fun h0=>by rw[hg] at h0;cases h0
end
end
section
set_option maxRecDepth 100000
set_option maxHeartbeats 8000000
section
variable {n i:Nat} {b b':Br}
structure uR (n i:Nat) (v a:Int) (b b1 c:Br):Prop where
 pre:∀j,j<i->c.nodes.getD j aw=b.nodes.getD j aw
 len:i+2<=c.nodes.length
 cnt:c.nodes.length+c.left=b.nodes.length+b.left
 lin:c.lines+iT c.nodes i=b.lines+iT c.nodes c.nodes.length
 lmx:c.lines<=400
 rows:c.rows=b1.rows
 nod:c.nodes.getD i aw={b1.nodes.getD i aw with var:=v,at_:=a,left:=((i+1:Nat):Int)}
 vld:∀j,i+1<=j->j<c.nodes.length->c.point=none->c.gave=false->xo n c.nodes.length j (c.nodes.getD j aw)
 par:c.point=none->c.gave=false->∀x:Int,lX c.nodes x c.nodes.length-lX c.nodes x (i+1)=if((i+1:Nat):Int)<x/\x<c.nodes.length then 1 else 0
 clo:c.point=none->c.gave=false->∀(N:List gC),(∀j,i+1<=j->j<c.nodes.length->N.getD j aw=c.nodes.getD j aw)->∀f,c.nodes.length-(i+1)<=f->BH n N f (i+1) (b1.rows++[jr n v a])=true
 pt:∀x,c.point=some x->x.length=n/\jz x/\∀l,l<b1.rows.length->0<=kC (b1.rows.getD l av) x
theorem nB (h:iC n i b) (ha:fv n i b b'):b'.lines=b.lines+(b'.nodes.getD i aw).lines.length:=by
 have:=ha.lin
 have h0:(b.nodes.getD i aw).lines.length=0:=by rw[h.new];rfl
 omega
theorem DN {v a:Int} {c0:Br} (h:iC n i b) (ha:fv n i b b') (hv:0<=v/\v<n) (h0:0<=a/\a<=1048576) (hl:b'.left≠0)
  (hc:iq n (i+1) ((gp i v a b'.nodes.length (bZ b')).put b'.rows (jr n v a)) c0):uR n i v a b b' (c0.cut b'.rows.length):=by
 have hb:b'.nodes.length=i+1:=ha.len.trans h.len
 have e0:((gp i v a b'.nodes.length (bZ b')).put b'.rows (jr n v a)).nodes.length=i+2:=by
  unfold gp bZ Br.put
  simp only[List.length_set,List.length_append,List.length_singleton]
  omega
 have e1:∀j,j<i->((gp i v a b'.nodes.length (bZ b')).put b'.rows (jr n v a)).nodes.getD j aw=b'.nodes.getD j aw:=fun j hj=>by
  unfold gp bZ Br.put
  dsimp only
  rw[QY (by omega),eP aw (by omega)]
 have e2:((gp i v a b'.nodes.length (bZ b')).put b'.rows (jr n v a)).nodes.getD i aw={b'.nodes.getD i aw with var:=v,at_:=a,left:=((i+1:Nat):Int)}:=by
  unfold gp bZ Br.put
  dsimp only
  rw[gS (by rw[List.length_append];omega),eP aw (by omega),hb]
 have e3:((gp i v a b'.nodes.length (bZ b')).put b'.rows (jr n v a)).left=b'.left-1:=rfl
 have e4:((gp i v a b'.nodes.length (bZ b')).put b'.rows (jr n v a)).lines=b'.lines:=rfl
 have e5:((gp i v a b'.nodes.length (bZ b')).put b'.rows (jr n v a)).rows=b'.rows++[jr n v a]:=rfl
 generalize (gp i v a b'.nodes.length (bZ b')).put b'.rows (jr n v a)=bL at*
 have hni:=hc.pre i (by omega)
 rw[e2] at hni
 obtain⟨m,em⟩:=hc.rows
 have hlen:=hc.len
 have hcnt:=hc.cnt
 refine⟨fun j hj=>?_,?_,?_,?_,hc.lmx,?_,hni,hc.vld,hc.par,fun h1 h2 N hN f hf=>?_,fun x hx=>?_⟩
 ·exact(hc.pre j (by omega)).trans ((e1 j hj).trans (ha.oth j (by omega)))
 ·show i+2<=c0.nodes.length
  omega
 ·show c0.nodes.length+c0.left=b.nodes.length+b.left
  have:=ha.lft
  have:=h.len
  omega
 ·show c0.lines+iT c0.nodes i=b.lines+iT c0.nodes c0.nodes.length
  have k1:=hc.lin
  have k2:=nB h ha
  rw[kN,hni] at k1
  dsimp only at k1
  omega
 ·show c0.rows.take b'.rows.length=b'.rows
  rw[em,e5,List.append_assoc,List.take_left']
  rfl
 ·have:=hc.clo h1 h2 N hN f hf
  rw[e5] at this
  exact this
 ·obtain⟨k1,k2,k3⟩:=hc.pt x hx
  refine⟨k1,k2,fun l hl=>?_⟩
  have:=k3 l (by rw[e5,List.length_append];omega)
  rwa [e5,eP av hl] at this
theorem v7 {v a:Int} {c:Br} (h:iC n i b) (ha:fv n i b b') (hc:uR n i v a b b' c) (hs:c.point.isSome=true\/c.gave=true):iq n i b c:=by
 have hno:¬(c.point=none/\c.gave=false):=by
  rintro⟨h1,h2⟩
  rcases hs with hs|hs
  ·rw[h1] at hs;cases hs
  ·rw[h2] at hs;cases hs
 obtain⟨m,em⟩:=ha.rows
 refine⟨hc.pre,by have:=h.len;have:=hc.len;omega,hc.cnt,hc.lin,hc.lmx,⟨m,by rw[hc.rows,em]⟩,by rw[hc.rows];exact ha.rdy h.rdy,fun _ _ _ h1 h2=>absurd ⟨h1,h2⟩ hno,fun h1 h2=>absurd ⟨h1,h2⟩ hno,fun h1 h2=>absurd ⟨h1,h2⟩ hno,fun x hx=>?_⟩
 obtain⟨k1,k2,k3⟩:=hc.pt x hx
 refine⟨k1,k2,fun l hl=>?_⟩
 have:=k3 l (by rw[em,List.length_append];omega)
 rwa [em,eP av hl] at this
theorem uR.giv {v a:Int} {b1 c:Br} (h:uR n i v a b b1 c):uR n i v a b b1 c.give:=
 ⟨h.pre,h.len,h.cnt,h.lin,h.lmx,h.rows,h.nod,fun _ _ _ _ h2=>(by cases h2),fun _ h2=>(by cases h2),fun _ h2=>(by cases h2),h.pt⟩
theorem QZ (p:Prop) [Decidable p]:((if p then(1:Int) else 0)=1/\p)\/((if p then(1:Int) else 0)=0/\¬p):=by
 by_cases h:p
 ·exact .inl ⟨if_pos h,h⟩
 ·exact .inr ⟨if_neg h,h⟩
theorem LY {v a:Int} {c d0:Br} (h:iC n i b) (ha:fv n i b b') (hln:An n b.rows (b'.nodes.getD i aw).lines (b'.nodes.getD i aw).lines.length=some b'.rows) (hv:0<=v/\v<n) (h0:0<=a/\a<=1048576)
  (hc:uR n i v a b b' c) (hp:c.point=none) (hg:c.gave=false) (hl:c.left≠0)
  (hd:iq n c.nodes.length ((gF i v a c.nodes.length (bZ c)).put b'.rows (jA n v (a+1))) d0):iq n i b (d0.cut b'.rows.length):=by
 have hcl:=hc.len
 have e0:((gF i v a c.nodes.length (bZ c)).put b'.rows (jA n v (a+1))).nodes.length=c.nodes.length+1:=by
  unfold gF bZ Br.put
  simp only[List.length_set,List.length_append,List.length_singleton]
 have e1:∀j,j≠i->j<c.nodes.length->((gF i v a c.nodes.length (bZ c)).put b'.rows (jA n v (a+1))).nodes.getD j aw=c.nodes.getD j aw:=fun j hj hj2=>by
  unfold gF bZ Br.put
  dsimp only
  rw[QY (by omega),eP aw hj2]
 have e2:((gF i v a c.nodes.length (bZ c)).put b'.rows (jA n v (a+1))).nodes.getD i aw={b'.nodes.getD i aw with var:=v,at_:=a,left:=((i+1:Nat):Int),right:=(c.nodes.length:Int)}:=by
  unfold gF bZ Br.put
  dsimp only
  rw[gS (by rw[List.length_append];omega),eP aw (by omega),hc.nod]
 have e3:((gF i v a c.nodes.length (bZ c)).put b'.rows (jA n v (a+1))).left=c.left-1:=rfl
 have e4:((gF i v a c.nodes.length (bZ c)).put b'.rows (jA n v (a+1))).lines=c.lines:=rfl
 have e5:((gF i v a c.nodes.length (bZ c)).put b'.rows (jA n v (a+1))).rows=b'.rows++[jA n v (a+1)]:=rfl
 generalize (gF i v a c.nodes.length (bZ c)).put b'.rows (jA n v (a+1))=bR at*
 have hni:=hd.pre i (by omega)
 rw[e2] at hni
 have hoj:∀j,j≠i->j<c.nodes.length->d0.nodes.getD j aw=c.nodes.getD j aw:=fun j h1 h2=>(hd.pre j h2).trans (e1 j h1 h2)
 obtain⟨m,em⟩:=hd.rows
 obtain⟨m1,em1⟩:=ha.rows
 have hlen:=hd.len
 have hcnt:=hd.cnt
 have htake:d0.rows.take b'.rows.length=b'.rows:=by
  rw[em,e5,List.append_assoc,List.take_left']
  rfl
 have hlo:i+1<=c.nodes.length:=by omega
 refine⟨fun j hj=>?_,?_,?_,?_,hd.lmx,⟨m1,by show d0.rows.take b'.rows.length=_;rw[htake,em1]⟩,?_,fun j h1 h2 h3 h4=>?_,fun h1 h2 x=>?_,fun h1 h2 N hN f hf=>?_,fun x hx=>?_⟩
 ·exact(hoj j (by omega) (by omega)).trans (hc.pre j hj)
 ·show b.nodes.length<=d0.nodes.length
  have:=h.len
  omega
 ·show d0.nodes.length+d0.left=b.nodes.length+b.left
  have:=hc.cnt
  omega
 ·show d0.lines+iT d0.nodes i=b.lines+iT d0.nodes d0.nodes.length
  have k1:=hd.lin
  have k2:=hc.lin
  have k3:=v6 (A:=d0.nodes) (B:=c.nodes) hlo fun j h1 h2=>hoj j (by omega) h2
  rw[kN,kN,hni,hc.nod] at k3
  dsimp only at k3
  omega
 ·show mR n (d0.rows.take b'.rows.length)
  rw[htake];exact ha.rdy h.rdy
 ·show xo n d0.nodes.length j (d0.nodes.getD j aw)
  by_cases hji:j=i
  ·subst hji
   rw[hni]
   refine .inr ⟨hv,h0,?_,?_⟩
   ·dsimp only;omega
   ·dsimp only;omega
  ·by_cases hjc:j<c.nodes.length
   ·rw[hoj j hji hjc]
    exact Fk (hc.vld j (by omega) hjc hp hg) (by omega)
   ·exact hd.vld j (by omega) h2 h3 h4
 ·show lX d0.nodes x d0.nodes.length-lX d0.nodes x i=if(i:Int)<x/\x<d0.nodes.length then 1 else 0
  have k1:=hd.par h1 h2 x
  have k2:=hc.par hp hg x
  have k3:=v5 (A:=d0.nodes) (B:=c.nodes) (c:=x) hlo fun j h1 h2=>hoj j (by omega) h2
  have k4:=z9 d0.nodes x i
  rw[hni,if_neg (by dsimp only;omega)] at k4
  dsimp only at k4
  have f1:=QZ (((i+1:Nat):Int)=x)
  have f2:=QZ ((c.nodes.length:Int)=x)
  have f3:=QZ ((i:Int)<x/\x<d0.nodes.length)
  have f4:=QZ ((c.nodes.length:Int)<x/\x<d0.nodes.length)
  have f5:=QZ (((i+1:Nat):Int)<x/\x<c.nodes.length)
  omega
 ·have hNi:=hN i (Nat.le_refl _) (by show i<d0.nodes.length;omega)
  obtain⟨f,rfl⟩:∃f',f=f'+1:=⟨f-1,by have:d0.nodes.length-i<=f:=hf;omega⟩
  have hf:d0.nodes.length-i<=f+1:=hf
  have hNi:N.getD i aw=d0.nodes.getD i aw:=hNi
  have a1:=hc.clo hp hg N (fun j g1 g2=>(hN j (by omega) (by show j<d0.nodes.length;omega)).trans (hoj j (by omega) g2)) f (by omega)
  have a2:=hd.clo h1 h2 N (fun j g1 g2=>hN j (by omega) g2) f (by omega)
  rw[e5] at a2
  rw[BH,hNi,hni]
  dsimp only
  rw[hln]
  dsimp only
  rw[if_neg (by omega),tN,tN,a1,a2]
  rfl
 ·obtain⟨k1,k2,k3⟩:=hd.pt x hx
  refine⟨k1,k2,fun l hl=>?_⟩
  have hlt:l<b'.rows.length:=by rw[em1,List.length_append];omega
  have:=k3 l (by rw[e5,List.length_append];omega)
  rwa [e5,eP av hlt,em1,eP av hl] at this
theorem iq.pnt {x:List Int} (h:iC n i b) (ha:fv n i b b') (h1:x.length=n) (h2:jz x) (h3:∀l,l<b'.rows.length->0<=kC (b'.rows.getD l av) x):iq n i b {b' with point:=some x}:=by
 have hl:b'.nodes.length=i+1:=ha.len.trans h.len
 obtain⟨m,em⟩:=ha.rows
 refine⟨fun j hj=>ha.oth j (by omega),by have:=ha.len;show b.nodes.length<=b'.nodes.length;omega,by have:=ha.len;have:=ha.lft;show b'.nodes.length+b'.left=_;omega,?_,ha.lmx h.lmx,⟨m,em⟩,ha.rdy h.rdy,fun _ _ _ e=>(by cases e),fun e=>(by cases e),fun e=>(by cases e),fun y hy=>?_⟩
 ·show b'.lines+iT b'.nodes i=b.lines+iT b'.nodes b'.nodes.length
  rw[hl,kN]
  have:=nB h ha
  omega
 ·cases hy
  refine⟨h1,h2,fun l hl=>?_⟩
  have:=h3 l (by rw[em,List.length_append];omega)
  rwa [em,eP av hl] at this
end
theorem B4 {l:List br} {r:br} (h:zu r):kF (l++[r]):=⟨l.length,by simp,by rw[nz];exact h⟩
theorem qW {n:Nat}:∀(k:Nat) {i:Nat} {b:Br},iC n i b->iq n i b (ma n k b i)
 |0,i,b,h=>iq.given h (fv.give n i b) rfl
 |k+1,i,b0,h=>by
  have hs:fv n i b0 (if i=0 then iK n b0 b0.rows.length else(b0,true)).1/\(((if i=0 then iK n b0 b0.rows.length else(b0,true)).2=false/\(if i=0 then iK n b0 b0.rows.length else(b0,true)).1.gave=true)\/
    ((if i=0 then iK n b0 b0.rows.length else(b0,true)).2=true/\(if i=0 then iK n b0 b0.rows.length else(b0,true)).1.gave=false/\
     An n b0.rows ((if i=0 then iK n b0 b0.rows.length else(b0,true)).1.nodes.getD i aw).lines ((if i=0 then iK n b0 b0.rows.length else(b0,true)).1.nodes.getD i aw).lines.length=some (if i=0 then iK n b0 b0.rows.length else(b0,true)).1.rows)):=by
   by_cases e:i=0
   ·subst e
    rw[if_pos rfl]
    exact xV (by have:=h.len;omega) (by rw[h.new];rfl) h.gv _ (Nat.le_refl _)
   ·rw[if_neg e]
    refine⟨fv.refl n i b0, .inr ⟨rfl,h.gv,?_⟩⟩
    dsimp only
    rw[h.new]
    rfl
  rw[ma]
  dsimp only
  generalize (if i=0 then iK n b0 b0.rows.length else(b0,true))=s at hs⊢
  obtain⟨b,ok⟩:=s
  dsimp only at hs⊢
  obtain⟨ha,hs⟩:=hs
  rcases hs with ⟨rfl,hg⟩|⟨rfl,hg,hln⟩
  ·rw[if_pos rfl]
   exact iq.given h ha hg
  rw[if_neg (by simp)]
  have hrdy:=ha.rdy h.rdy
  have hb:b.nodes.length=i+1:=ha.len.trans h.len
  by_cases hsc:kF b.rows
  ·rw[if_pos hsc]
   exact iq.leaf h ha fun _=>⟨hln,hsc⟩
  rw[if_neg hsc]
  by_cases hnb:z3 b.rows
  case neg=>
   rw[if_pos hnb]
   exact iq.given h ha.giv rfl
  rw[if_neg (fun hh=>hh hnb)]
  have hw:∀j,j<b.rows.length->(b.rows.getD j av).coef.length=n:=fun j hj=>(hrdy j hj).1
  have T0:=BZ hw hnb
  cases hsl:Fh b.rows.length n 5000 (ep n b.rows) with
  |none=>exact iq.given h ha.giv rfl
  |some z=>
   obtain⟨t,bad⟩:=z
   dsimp only
   obtain⟨T,hbad⟩:=DH 5000 T0 hsl
   by_cases hb0:0<=bad
   ·rw[if_pos hb0]
    obtain⟨hbr,hneg,hcol⟩:(0<=bad/\bad<b.rows.length)/\cl t bad.toNat 0<0/\∀j,j<n->cl t bad.toNat (j+1)<=0:=by
     rcases hbad with hbad|hbad
     ·omega
     ·exact hbad
    cases hfk:Ar n t bad.toNat with
    |none=>exact iq.given h ha.giv rfl
    |some d=>
     dsimp only
     have hde:d=vZ n t bad.toNat:=by
      unfold Ar at hfk
      split at hfk
      ·cases hfk
      ·exact(Option.some.inj hfk).symm
     subst hde
     obtain⟨k1,k2⟩:=DM (n:=n) (i:=i) (b:=b) (d:=vZ n t bad.toNat) (by omega)
     rcases k2 with k2|⟨_,_,k4,k5,k6⟩
     ·exact iq.given h (ha.trans k1) k2.2
     ·refine iq.leaf h (ha.trans k1) fun _=>⟨?_,?_⟩
      ·rw[k6,k5]
       exact z8 hln k4
      ·rw[k5]
       exact B4 (LW T hw hrdy (by omega) hcol hneg k4)
   ·rw[if_neg hb0]
    have h0:∀j,j<b.rows.length->0<=cl t j 0:=by
     rcases hbad with hbad|hbad
     ·exact hbad.2
     ·omega
    have hbas:∀j,j<b.rows.length->0<=t.bas.getD j 0:=fun j hj=>(p6 T _ (List.mem_append_left _ (tv (l:=t.bas) 0 (by rw[T.bl];exact hj)))).1
    have hfr:=su (n:=n) hbas T.dp.1 h0 b.rows.length (Nat.le_refl _)
    by_cases hv:(ca n t b.rows.length).1<0
    ·rw[if_pos hv]
     by_cases hpos:jz (lZ n t b.rows.length)
     ·rw[if_pos hpos]
      exact iq.pnt h ha (jT n t _) hpos (Pk T hw h0 fun j hj=>z7 hbas _ (Nat.le_refl _) hv j hj)
     ·rw[if_neg hpos]
      exact iq.given h ha.giv rfl
    rw[if_neg hv]
    generalize (ca n t b.rows.length).1=v at*
    generalize (ca n t b.rows.length).2=a at*
    by_cases hal:1048576<a
    ·rw[if_pos hal]
     exact iq.given h ha.giv rfl
    rw[if_neg hal]
    by_cases hl:b.left=0
    ·rw[if_pos hl]
     exact iq.given h ha.giv rfl
    rw[if_neg hl]
    have hvr:0<=v/\v<n:=by omega
    have har:0<=a/\a<=1048576:=by omega
    have hL:iC n (i+1) ((gp i v a b.nodes.length (bZ b)).put b.rows (jr n v a)):=by
     refine⟨?_,?_,ha.pt.trans h.pt,hg,nq hrdy (rZ (.inr rfl) (by unfold iB;omega)),ha.lmx h.lmx,h.n96⟩
     ·unfold gp bZ Br.put
      simp only[List.length_set,List.length_append,List.length_singleton]
      omega
     ·unfold gp bZ Br.put
      dsimp only
      rw[QY (by omega),<-hb,nz]
    have hH:=DN h ha hvr har hl (qW k hL)
    rw[hb] at hH⊢
    generalize (ma n k ((gp i v a ((i+1:Nat):Int) (bZ b)).put b.rows (jr n v a)) (i+1)).cut b.rows.length=c at hH⊢
    by_cases hst:c.point.isSome=true\/c.gave=true
    ·rw[if_pos hst]
     exact v7 h ha hH hst
    rw[if_neg hst]
    by_cases hcl:c.left=0
    ·rw[if_pos hcl]
     exact v7 h ha hH.giv (.inr rfl)
    rw[if_neg hcl]
    have hcp:c.point=none:=by
     cases hp:c.point with
     |none=>rfl
     |some x=>exact absurd (.inl (by rw[hp];rfl)) hst
    have hcg:c.gave=false:=by
     cases hp:c.gave with
     |false=>rfl
     |true=>exact absurd (.inr hp) hst
    have hR:iC n c.nodes.length ((gF i v a c.nodes.length (bZ c)).put b.rows (jA n v (a+1))):=by
     refine⟨?_,?_,hcp,hcg,nq hrdy (rZ (.inl rfl) (by unfold iB;omega)),hH.lmx,h.n96⟩
     ·unfold gF bZ Br.put
      simp only[List.length_set,List.length_append,List.length_singleton]
     ·have:=hH.len
      unfold gF bZ Br.put
      dsimp only
      rw[QY (by omega),nz]
    have e:c.rows=b.rows:=hH.rows
    exact LY h ha hln hvr har hH hcp hcg hcl (qW k hR)
theorem LZ {s:dN} (h:fH s=0) {nodes:Int} (hn:0<nodes):iq s.vars.toNat 0 ⟨s.rows,[iW],0,(min nodes 400-1).toNat,none,false⟩ (jv s nodes):=by
 have:=(lA h).1
 exact qW 401 ⟨rfl,rfl,rfl,rfl,C8 h,Nat.zero_le _,by omega⟩
theorem v8 {s:dN} (h:fH s=0) {nodes:Int} (hn:0<nodes) {x:List Int} (hx:(jv s nodes).point=some x):pB s x:=by
 have hB:=LZ h hn
 obtain⟨h1,h2,h3⟩:=hB.pt x hx
 have:=(lA h).1
 exact⟨h,by omega,h2,h3⟩
end
end Go.Proofs.YtekmminpfhacpaaGreatDoor
