import Derived.Test.YtekmminpfhacpaaGreatDoorX1
set_option linter.unusedVariables false
set_option linter.unusedSimpArgs false
namespace Go.Proofs.YtekmminpfhacpaaGreatDoor
section
set_option maxRecDepth 100000
set_option maxHeartbeats 16000000
theorem HD (a b:Int) (hb:b≠0):Int.gcd a b=Int.gcd b (a.tmod b):=by
 have h:=Int.gcd_add_mul_right_right b (a.tmod b) (a.tdiv b)
 have e:=Int.mul_tdiv_add_tmod a b
 rw[Int.gcd_comm,<-h]
 congr 1
 rw[Int.mul_comm (a.tdiv b) b]
 omega
theorem MO (a d:Int) (ha:-9223372036854775807<=a/\a<=9223372036854775807) (hd:1<=d):ah Tryz.prog 273 [.int .i64 a, .int .i64 d] (fun u=>u= .int .i64 (Ao a d)):=by
 have hq:-9223372036854775807<=a.tdiv d/\a.tdiv d<=9223372036854775807:=by
  have h:=Int.natAbs_tdiv_le_natAbs a d
  omega
 refine ah.intro ab ac Tryz.func273 rfl (by decide) ?_;(conv=>whnf)
 refine nK (by omega) (by omega) ?_
 conv=>whnf
 refine nI ?_
 conv=>whnf
 refine ae ?_ ?_<;>(intro h;conv=>whnf)
 ·refine aI ?_
  conv=>whnf
  exact⟨x8 (by unfold Ao;rw[if_pos h]),rfl⟩
 ·exact⟨x8 (by unfold Ao;rw[if_neg h]),rfl⟩
theorem MP (a b:Int) (ha:0<=a/\a<=9223372036854775807) (hb:0<=b/\b<=9223372036854775807):ah Tryz.prog 218 [.int .i64 a, .int .i64 b] (fun u=>u= .int .i64 (Int.gcd a b:Int)):=by
 refine ah.intro ab ac Tryz.func218 rfl (by decide) ?_;(conv=>whnf)
 refine aJ.loopF ab ac (fun x:Int×Int=>(0<=x.1/\x.1<=9223372036854775807)/\(0<=x.2/\x.2<=9223372036854775807)/\Int.gcd x.1 x.2=Int.gcd a b) (fun x=>[(0, .int .i64 x.1),(1, .int .i64 x.2)]) (fun _=>[]) (fun x=>x.2.toNat) (a,b) ⟨ha,hb,rfl⟩ ?_;conv=>whnf
 refine⟨sI,?_⟩
 rintro⟨x,y⟩ ⟨hx,hy,hg⟩
 conv=>whnf
 refine ae ?_ ?_<;>(intro h1;conv=>whnf)
 ·dsimp only at hx hy hg
  refine dI ?_
  conv=>whnf
  refine bg h1 ?_
  conv=>whnf
  have h3:=Int.tmod_nonneg y hx.1
  have h4:=Int.tmod_lt_of_pos x (show 0<y by omega)
  refine⟨(y,x.tmod y),sI,⟨hy,by dsimp only;omega,?_⟩,by dsimp only;omega⟩
  dsimp only
  rw[<-hg,HD x y h1]
 ·have h0:y=0:=Classical.not_not.1 h1
  subst h0
  refine⟨x8 ?_,rfl⟩
  dsimp only at hg hx
  rw[<-hg,Int.gcd_zero_right]
  omega
def ou (r:aV):Nat->Int
 |0=>0
 |k+1=>(Int.gcd (ou r k) (r.coef.getD k 0):Int)
theorem BM {r:aV} (hs:GC r.coef):∀k,k<=r.coef.length->0<=ou r k/\ou r k<=68719476736
 |0,_=>by rw[ou];omega
 |k+1,hk=>by
  have ih:=BM hs k (by omega)
  have hc:ia (r.coef.getD k 0):=hs k (by omega)
  unfold ia at hc
  rw[ou]
  by_cases e:r.coef.getD k 0=0
  ·rw[e,Int.gcd_zero_right];omega
  ·have h:=Int.gcd_le_natAbs_right (ou r k) e
   omega
theorem HE (r:aV) (hs:mH r) (hl:r.coef.length<=140737488355328):ah Tryz.prog 213 [.agg (aw r)] (fun u=>u= .int .i64 (ou r r.coef.length)):=by
 refine ah.intro ab ac Tryz.func213 rfl (by decide) ?_;(conv=>whnf)
 refine au rfl ?_
 conv=>whnf
 refine aJ.loopF ab ac (fun k:Nat=>k<=r.coef.length) (fun k=>[(9, .int .i64 (k:Int)),(3, .int .i64 (ou r k))]) (fun _=>[]) (fun k=>r.coef.length-k) 0 (Nat.zero_le _) ?_;conv=>whnf
 refine⟨sI,?_⟩
 rintro k hk
 have hz:=BM hs.1 k (by omega)
 conv=>whnf
 refine ae ?_ ?_<;>(intro h1;conv=>whnf)
 ·refine nI ?_
  rw[tN]
  conv=>whnf
  have hc:ia (r.coef.getD k 0):=hs.1 k (by omega)
  unfold ia at hc
  refine aI ?_
  conv=>whnf
  have hG:=MP (ou r k) (if 0-r.coef.getD k 0>r.coef.getD k 0 then 0-r.coef.getD k 0 else r.coef.getD k 0) (by omega) (by split<;>omega)
  have e:(Int.gcd (ou r k) (if 0-r.coef.getD k 0>r.coef.getD k 0 then 0-r.coef.getD k 0 else r.coef.getD k 0):Int)=ou r (k+1):=by
   rw[ou]
   split
   ·rw[Int.zero_sub,Int.gcd_neg]
   ·rfl
  rw[e] at hG
  (refine oP (hG) ?_;conv=>whnf)
  repeat' ((first|refine nI ?_|refine aI ?_|refine uI ?_|refine vI ?_|refine dI ?_|refine dR ?_|refine dP ?_|refine au rfl ?_|refine pI _ rfl ?_|refine ak _ rfl ?_|refine tI ?_|refine fI ?_|refine ae (fun _=>?_) (fun _=>?_))<;>conv=>whnf)
  exact⟨k+1,sI,by omega,by dsimp only;omega⟩
 ·obtain rfl:k=r.coef.length:=by omega
  exact⟨rfl,rfl⟩
theorem jC (r:aV) (hl:r.coef.length<=140737488355328):ah Tryz.prog 129 [.agg (aw r)] (fun u=>u= .bool (decide (t4 r))):=by
 refine ah.intro ab ac Tryz.func129 rfl (by decide) ?_;(conv=>whnf)
 refine au rfl ?_
 conv=>whnf
 refine aJ.loopF ab ac (fun k:Nat=>k<=r.coef.length/\∀j,j<k->r.coef.getD j 0<=0) (fun k=>[(8, .int .i64 (k:Int))]) (fun _=>[]) (fun k=>r.coef.length-k) 0 ⟨Nat.zero_le _,fun j hj=>absurd hj (Nat.not_lt_zero _)⟩ ?_;conv=>whnf
 refine⟨sI,?_⟩
 rintro k ⟨hk,ha⟩
 conv=>whnf
 refine ae ?_ ?_<;>(intro h1;conv=>whnf)
 ·refine nI ?_
  rw[tN]
  conv=>whnf
  refine ae ?_ ?_<;>(intro h2;conv=>whnf)
  ·exact⟨aA (fun h=>by have:=h.1 k (by omega);omega),rfl⟩
  ·repeat' ((first|refine nI ?_|refine aI ?_|refine uI ?_|refine vI ?_|refine dI ?_|refine dR ?_|refine dP ?_|refine au rfl ?_|refine pI _ rfl ?_|refine ak _ rfl ?_|refine tI ?_|refine fI ?_|refine ae (fun _=>?_) (fun _=>?_))<;>conv=>whnf)
   refine⟨k+1,sI,⟨by omega,fun j hj=>?_⟩,by dsimp only;omega⟩
   by_cases e:j=k
   ·subst e;omega
   ·exact ha j (by omega)
 ·obtain rfl:k=r.coef.length:=by omega
  refine ae ?_ ?_<;>(intro h2;conv=>whnf)
  ·exact⟨bE ⟨ha,h2⟩,rfl⟩
  ·exact⟨aA (fun h=>h2 h.2),rfl⟩
theorem OV (n:Nat) (v:Int) (hn:n<=1000) (hv:0<=v/\v<n):ah Tryz.prog 274 [.int .i64 n, .int .i64 v] (fun u=>u= .agg (aw ⟨(List.replicate n 0).set v.toNat 1,0⟩)):=by
 refine ah.intro ab ac Tryz.func274 rfl (by decide) ?_;(conv=>whnf)
 refine x7 0 al 0 rfl (by dsimp only;omega) ?_
 rw[tN]
 conv=>whnf
 refine nI ?_
 conv=>whnf
 refine ak 1 rfl ?_
 conv=>whnf
 exact⟨rfl,rfl⟩
theorem Dd (n:Nat) (v k:Int) (hn:n<=1000) (hv:0<=v/\v<n):ah Tryz.prog 220 [.int .i64 n, .int .i64 v, .int .i64 k] (fun u=>u= .agg (aw (gi n v k))):=by
 refine ah.intro ab ac Tryz.func220 rfl (by decide) ?_;(conv=>whnf)
 refine x7 0 al 0 rfl (by dsimp only;omega) ?_
 rw[tN]
 conv=>whnf
 refine nI ?_
 conv=>whnf
 refine ak (-1) rfl ?_
 conv=>whnf
 exact⟨rfl,rfl⟩
theorem zL (n:Nat) (v k:Int) (hn:n<=1000) (hv:0<=v/\v<n) (hk:-9223372036854775807<=k/\k<=9223372036854775807):ah Tryz.prog 221 [.int .i64 n, .int .i64 v, .int .i64 k] (fun u=>u= .agg (aw (gj n v k))):=by
 refine ah.intro ab ac Tryz.func221 rfl (by decide) ?_;(conv=>whnf)
 (refine oP (OV n v hn hv) ?_;conv=>whnf)
 refine aI ?_
 conv=>whnf
 refine⟨?_,rfl⟩
 unfold gj aw
 rw[Int.zero_sub]
 rfl
set_option maxHeartbeats 32000000
def cW (n:Nat) (c:List Int) (f:Nat->Int) (j:Nat):List Int:=(List.range n).map fun i=>if i<j then f i else c.getD i 0
theorem dU (n:Nat) (c:List Int) (f:Nat->Int) (j:Nat):(cW n c f j).length=n:=by simp[cW]
theorem gc {n:Nat} {c:List Int} (f:Nat->Int) (h:c.length=n):cW n c f 0=c:=by
 apply List.ext_getElem
 ·simp[cW,h]
 ·intro i h1 h2
  simp[cW,gD,gL h2]
theorem gG {n:Nat} {c:List Int} {f:Nat->Int} {i j:Nat} (h:i<n) (hj:¬i<j):(cW n c f j).getD i 0=c.getD i 0:=by
 rw[ap 0 (by rw[dU];exact h)]
 simp only[cW,List.getElem_map,List.getElem_range]
 rw[if_neg hj]
theorem j9 {n:Nat} {c:List Int} {f:Nat->Int} {j:Nat} (h:j<n):(cW n c f j).set j (f j)=cW n c f (j+1):=by
 apply List.ext_getElem
 ·simp[cW]
 ·intro i h1 h2
  rw[List.getElem_set]
  simp only[cW,List.getElem_map,List.getElem_range]
  by_cases e:j=i
  ·subst e;rw[if_pos rfl,if_pos (by omega)]
  ·rw[if_neg e]
   by_cases h3:i<j
   ·rw[if_pos h3,if_pos (by omega)]
   ·rw[if_neg h3,if_neg (by omega)]
theorem iH (n:Nat) (c:List Int) (f:Nat->Int):cW n c f n=(List.range n).map f:=by
 apply List.ext_getElem
 ·simp[cW]
 ·intro i h1 h2
  simp only[cW,List.getElem_map,List.getElem_range]
  rw[if_pos (by simpa[cW] using h1)]
theorem BN (a d:Int) {m:Int} (h:-m<=a/\a<=m):-m<=a.tdiv d/\a.tdiv d<=m:=by
 have:=Int.natAbs_tdiv_le_natAbs a d
 omega
theorem np {c:List Int} {n:Nat} (f:Int->Int) (h:c.length=n):(List.range n).map (fun i=>f (c.getD i 0))=c.map f:=by
 apply List.ext_getElem
 ·simp[h]
 ·intro i h1 h2
  have h3:i<c.length:=by simpa using h2
  simp[gD,gL h3]
def MQ (d:kR):Prop:=d.src.length<=140737488355328/\d.mult.length<=140737488355328
def jb (n:Nat) (nodes:List dW) (rows:List aV):List (Nat×bf):=[(7001, .box 223 [.int .i64 n, .sl an aK nodes, .row 7002 rows.length 2]),(7002, .row 161 ar aw rows)]
def MR (n:Nat) (nodes:List dW) (rows:List aV) (c:List Int) (k:Int):List (Nat×bf):=
 [(7001, .box 223 [.int .i64 n, .sl an aK nodes, .row 7002 rows.length 2]),(7002, .row 161 ar aw rows),(4, .box 161 [.nilsl, .int .i64 0]),(6, .box 161 [.row 47 n 1, .int .i64 k]),(47, .row 3 0 al c)]
def MS (n:Nat) (rows:List aV) (d:kR) (u:AV):Prop:=(xv n rows d/\u= .tup [.agg (aw (j0 n rows d)), .bool true])\/(¬xv n rows d/\∃r,u= .tup [.agg (aw r), .bool false])
def ES (n:Nat) (rows:List aV) (d:kR) (u:AV):Prop:=MS n rows d u\/(¬xv n rows d/\u= .tup [.agg [.nilsl, .int .i64 0], .bool false])
theorem De (n:Nat) (nodes:List dW) (rows:List aV) (d:kR) (hn:n<=96) (hr:kC n rows) (hl:rows.length<=10000000) (hd:MQ d):
  aj Tryz.prog 219 [.ptr 7001 0, .agg (t3 d)] (ag.ofL (jb n nodes rows)) (fun u M=>MS n rows d u/\M=ag.ofL (jb n nodes rows)):=by
 have hd1:=hd.1
 have hd2:=hd.2
 refine aj.renorm 400 (R:=fun u M=>ES n rows d u/\bG (lV (jb n nodes rows)) 400 M (jb n nodes rows)) ?_ ?_
 case refine_2=>
  rintro u M' ⟨hu|⟨hb,rfl⟩,hM⟩
  ·rcases hu with ⟨hb,rfl⟩|⟨hb,r,rfl⟩
   ·exact⟨_,_, .tup [.agg (aw (j0 n rows d)), .bool true],rfl,hM,⟨⟨rfl,rfl,trivial⟩,rfl,trivial⟩, .inl ⟨hb,rfl⟩,rfl⟩
   ·exact⟨_,_, .tup [.agg (aw r), .bool false],rfl,hM,⟨⟨rfl,rfl,trivial⟩,rfl,trivial⟩, .inr ⟨hb,r,rfl⟩,rfl⟩
  ·exact⟨_,_, .tup [.agg (aw ar), .bool false],rfl,hM,⟨⟨rfl,rfl,trivial⟩,rfl,trivial⟩, .inr ⟨hb,ar,rfl⟩,rfl⟩
 refine aj.introL ab ac (jb n nodes rows) Tryz.func219 rfl (by decide) ?_
 conv=>whnf
 refine au rfl ?_
 conv=>whnf
 have hno:∀{M:ag},¬xv n rows d->bG (lV (jb n nodes rows)) 400 M (jb n nodes rows)->ES n rows d (.tup [.agg [.nilsl, .int .i64 0], .bool false])/\bG (lV (jb n nodes rows)) 400 M (jb n nodes rows):=fun h h'=>⟨.inr ⟨h,rfl⟩,h'⟩
 refine ae ?_ ?_<;>(intro h1;conv=>whnf)
 ·exact hno (fun h=>h1 (by have:=h.1.1;omega)) (aa)
 refine ae ?_ ?_<;>(intro h2;conv=>whnf)
 ·exact hno (fun h=>by have:=h.1.2.1;omega) (aa)
 refine ae ?_ ?_<;>(intro h3;conv=>whnf)
 ·exact hno (fun h=>by have:=h.1.2.1;omega) (aa)
 refine ae ?_ ?_<;>(intro h4;conv=>whnf)
 ·exact hno (fun h=>by have:=h.1.2.2;omega) (aa)
 refine ae ?_ ?_<;>(intro h5;conv=>whnf)
 ·exact hno (fun h=>by have:=h.1.2.2;omega) (aa)
 have hed:BG d:=⟨by omega,by omega,by omega⟩
 refine x7 0 al 0 rfl (by dsimp only;omega) ?_
 rw[tN]
 conv=>whnf
 refine aJ.loopF ab ac (fun k:Nat=>k<=d.src.length/\∀i,i<k->mP n rows.length d i) (fun k=>[(52, .int .i64 (k:Int))]) (fun k=>MR n nodes rows (fi n rows d k) (nG rows d k)) (fun k=>d.src.length-k) 0 ⟨Nat.zero_le _,fun j hj=>absurd hj (Nat.not_lt_zero _)⟩ ?_;conv=>whnf
 refine⟨sI,?_⟩
 rintro k ⟨hk,ha⟩
 have bC:=G' hr k ha
 have bK:=Ha hr k ha
 have lC:=j5 n rows d k
 conv=>whnf
 refine ae ?_ ?_<;>(intro g1;conv=>whnf)
 ·refine nI ?_
  rw[tN]
  conv=>whnf
  refine nI ?_
  rw[tN]
  conv=>whnf
  refine ae ?_ ?_<;>(intro g2;conv=>whnf)
  ·exact hno (fun h=>by have:=h.2.1 k (by omega);unfold mP at this;omega) (aa)
  refine ae ?_ ?_<;>(intro g3;conv=>whnf)
  ·exact hno (fun h=>by have:=h.2.1 k (by omega);unfold mP at this;omega) (aa)
  refine ae ?_ ?_<;>(intro g4;conv=>whnf)
  ·exact hno (fun h=>by have:=h.2.1 k (by omega);unfold mP at this;omega) (aa)
  refine aI ?_
  conv=>whnf
  refine ae ?_ ?_<;>(intro g5;conv=>whnf)
  ·exact hno (fun h=>by have:=h.2.1 k (by omega);unfold mP at this;omega) (aa)
  have ht:mP n rows.length d k:=⟨by omega,by omega⟩
  have ha':∀i,i<k+1->mP n rows.length d i:=fun i hi=>by
   by_cases e:i=k
   ·subst e;exact ht
   ·exact ha i (by omega)
  have bm:1<=d.mult.getD k 0/\d.mult.getD k 0<=65536:=ht.2
  by_cases g6:d.src.getD k 0<0
  ·refine cO g6 ?_
   conv=>whnf
   have bi:=bC (-1-d.src.getD k 0).toNat
   have h64:(k:Int)<64:=by have:=hed.2.1;omega
   refine aI ?_
   conv=>whnf
   refine nI ?_
   conv=>whnf
   refine aI ?_
   conv=>whnf
   refine nI ?_
   conv=>whnf
   refine ak _ rfl ?_
   conv=>whnf
   repeat' ((first|refine nI ?_|refine aI ?_|refine uI ?_|refine vI ?_|refine dI ?_|refine dR ?_|refine dP ?_|refine au rfl ?_|refine pI _ rfl ?_|refine ak _ rfl ?_|refine tI ?_|refine fI ?_|refine ae (fun _=>?_) (fun _=>?_))<;>conv=>whnf)
   refine⟨k+1,?_,⟨by omega,ha'⟩,by dsimp only;omega⟩
   dsimp only
   rw[fi,if_pos g6,nG,if_pos g6]
   exact sI
  ·refine cX g6 ?_
   conv=>whnf
   refine nI ?_
   conv=>whnf
   have hw:=hr (d.src.getD k 0).toNat (by omega)
   have h64:(k:Int)<64:=by have:=hed.2.1;omega
   refine aJ.loopF ab ac (fun j:Nat=>j<=n) (fun j=>[(108, .int .i64 (j:Int))]) (fun j=>(10, .box 161 (aw (rows.getD (d.src.getD k 0).toNat ar)))::MR n nodes rows (cW n (fi n rows d k) (fun i=>(fi n rows d k).getD i 0+d.mult.getD k 0*(rows.getD (d.src.getD k 0).toNat ar).coef.getD i 0) j) (nG rows d k)) (fun j=>n-j) 0 (Nat.zero_le _) ?_;conv=>whnf
   refine⟨?_,?_⟩
   ·show aH _ _ _ _ _
    rw[gc _ lC]
    exact sI
   rintro j hj
   conv=>whnf
   refine ae ?_ ?_<;>(intro g7;conv=>whnf)
   ·have hjn:j<n:=by omega
    have lM:=dU n (fi n rows d k) (fun i=>(fi n rows d k).getD i 0+d.mult.getD k 0*(rows.getD (d.src.getD k 0).toNat ar).coef.getD i 0) j
    have bj:=bC j
    have cj:ia ((rows.getD (d.src.getD k 0).toNat ar).coef.getD j 0):=hw.2.1 j (by omega)
    have mj:=qE cj bm
    first|refine dI ?_|refine eI (by decide+kernel) ?_
    conv=>whnf
    refine nI ?_
    rw[tN]
    conv=>whnf
    rw[gG hjn (Nat.lt_irrefl _)]
    refine nI ?_
    rw[tN]
    conv=>whnf
    refine aI ?_
    conv=>whnf
    refine aI ?_
    conv=>whnf
    refine nI ?_
    conv=>whnf
    refine ak _ rfl ?_
    conv=>whnf
    repeat' ((first|refine nI ?_|refine aI ?_|refine uI ?_|refine vI ?_|refine dI ?_|refine dR ?_|refine dP ?_|refine au rfl ?_|refine pI _ rfl ?_|refine ak _ rfl ?_|refine tI ?_|refine fI ?_|refine ae (fun _=>?_) (fun _=>?_))<;>conv=>whnf)
    refine⟨j+1,?_,by omega,by dsimp only;omega⟩
    dsimp only
    rw[<-j9 hjn]
    exact sI
   ·obtain rfl:j=n:=by omega
    have cK:=qE hw.2.2 bm
    refine aI ?_
    conv=>whnf
    refine aI ?_
    conv=>whnf
    repeat' ((first|refine nI ?_|refine aI ?_|refine uI ?_|refine vI ?_|refine dI ?_|refine dR ?_|refine dP ?_|refine au rfl ?_|refine pI _ rfl ?_|refine ak _ rfl ?_|refine tI ?_|refine fI ?_|refine ae (fun _=>?_) (fun _=>?_))<;>conv=>whnf)
    refine⟨k+1,?_,⟨by omega,ha'⟩,by dsimp only;omega⟩
    dsimp only
    rw[fi,if_neg g6,nG,if_neg g6,<-iH j (fi j rows d k)]
    exact sI
 ·obtain rfl:k=d.src.length:=by omega
  have h64:(d.src.length:Int)<=64:=by have:=hed.2.1;omega
  have hdv:1<=d.div/\d.div<=68719476736:=hed.2.2
  refine aJ.loopF ab ac (fun j:Nat=>j<=n/\∀i,i<j->((fi n rows d d.src.length).getD i 0).tmod d.div=0) (fun j=>[(138, .int .i64 (j:Int))]) (fun j=>MR n nodes rows (cW n (fi n rows d d.src.length) (fun i=>((fi n rows d d.src.length).getD i 0).tdiv d.div) j) (nG rows d d.src.length)) (fun j=>n-j) 0 ⟨Nat.zero_le _,fun j hj=>absurd hj (Nat.not_lt_zero _)⟩ ?_;conv=>whnf
  refine⟨?_,?_⟩
  ·show aH _ _ _ _ _
   rw[gc _ lC]
   exact sI
  rintro j ⟨hj,hm⟩
  have lM:=dU n (fi n rows d d.src.length) (fun i=>((fi n rows d d.src.length).getD i 0).tdiv d.div) j
  conv=>whnf
  refine ae ?_ ?_<;>(intro g7;conv=>whnf)
  ·have hjn:j<n:=by omega
   have bj:=bC j
   refine dI ?_
   conv=>whnf
   refine nI ?_
   rw[tN]
   conv=>whnf
   rw[gG hjn (Nat.lt_irrefl _)]
   refine nI ?_
   conv=>whnf
   refine ae ?_ ?_<;>(intro g8;conv=>whnf)
   ·exact hno (fun h=>g8 (h.2.2.1 j hjn)) (aa)
   have qj:=BN ((fi n rows d d.src.length).getD j 0) d.div (m:=4503599627370496*(d.src.length:Int)) (by omega)
   first|refine dI ?_|refine eI (by decide+kernel) ?_
   conv=>whnf
   refine nI ?_
   rw[tN]
   conv=>whnf
   rw[gG hjn (Nat.lt_irrefl _)]
   refine nK (by omega) (by omega) ?_
   conv=>whnf
   refine nI ?_
   conv=>whnf
   refine ak _ rfl ?_
   conv=>whnf
   repeat' ((first|refine nI ?_|refine aI ?_|refine uI ?_|refine vI ?_|refine dI ?_|refine dR ?_|refine dP ?_|refine au rfl ?_|refine pI _ rfl ?_|refine ak _ rfl ?_|refine tI ?_|refine fI ?_|refine ae (fun _=>?_) (fun _=>?_))<;>conv=>whnf)
   refine⟨j+1,?_,⟨by omega,fun i hi=>?_⟩,by dsimp only;omega⟩
   ·dsimp only
    rw[<-j9 hjn]
    exact sI
   ·by_cases e:i=j
    ·subst e;exact Classical.not_not.1 g8
    ·exact hm i (by omega)
  ·obtain rfl:j=n:=by omega
   have bK':=bK
   refine aj.of_pure (n:=5) (MO (nG rows d d.src.length) d.div (by omega) hdv.1) rfl ?_
   rintro _ rfl
   conv=>whnf
   have hR:(⟨cW j (fi j rows d d.src.length) (fun i=>((fi j rows d d.src.length).getD i 0).tdiv d.div) j,Ao (nG rows d d.src.length) d.div⟩:aV)=j0 j rows d:=by
    rw[iH,np (fun a=>a.tdiv d.div) lC]
    rfl
   have fin:∀{M:ag},bG (lV (jb j nodes rows)) 400 M (jb j nodes rows)->ES j rows d (.tup [.agg (aw ⟨cW j (fi j rows d d.src.length) (fun i=>((fi j rows d d.src.length).getD i 0).tdiv d.div) j,Ao (nG rows d d.src.length) d.div⟩), .bool (decide (mH ⟨cW j (fi j rows d d.src.length) (fun i=>((fi j rows d d.src.length).getD i 0).tdiv d.div) j,Ao (nG rows d d.src.length) d.div⟩))])/\bG (lV (jb j nodes rows)) 400 M (jb j nodes rows):=by
    intro M hM
    refine⟨.inl ?_,hM⟩
    rw[hR]
    by_cases hs:mH (j0 j rows d)
    ·rw[decide_eq_true hs]
     exact .inl ⟨⟨hed,ha,hm,hs⟩,rfl⟩
    ·rw[decide_eq_false hs]
     exact .inr ⟨fun h=>hs h.2.2.2,_,rfl⟩
   refine nU ?_
   conv=>whnf
   repeat' first
    |exact True.intro
    |exact fin (aa)
    |(refine And.intro ?_ ?_<;>conv=>whnf)
    |((refine aj.borrow (n:=5) (OB ⟨cW j (fi j rows d d.src.length) (fun i=>((fi j rows d d.src.length).getD i 0).tdiv d.div) j,Ao (nG rows d d.src.length) d.div⟩ (by dsimp only;omega)) rfl (by rintro _ rfl;rfl) ?_;rintro _ rfl;conv=>whnf))
def HF (nodes:List dW):Prop:=nodes.length<=140737488355328/\∀i,i<nodes.length->(nodes.getD i an).lines.length<=140737488355328/\∀j,j<(nodes.getD i an).lines.length->MQ ((nodes.getD i an).lines.getD j lA)
def gP (nodes:List dW) (k:Nat):List Int:=(List.range nodes.length).map fun i:Nat=>gh nodes (i:Int) k
theorem gH (nodes:List dW) (k:Nat):(gP nodes k).length=nodes.length:=by simp[gP]
theorem iI {nodes:List dW} {k i:Nat} (h:i<nodes.length):(gP nodes k).getD i 0=gh nodes i k:=by
 rw[ap 0 (by rw[gH];exact h)];simp[gP]
theorem v8 (nodes:List dW):gP nodes 0=List.replicate nodes.length 0:=by
 apply List.ext_getElem
 ·simp[gP]
 ·intro i h1 h2;simp[gP,gh]
def ov (l:List Int) (c:Int):List Int:=l.set c.toNat (l.getD c.toNat 0+1)
theorem ui (l:List Int) (c:Int):(ov l c).length=l.length:=by simp[ov]
theorem sc {l:List Int} {c:Int} {i:Nat} (hi:i<l.length) (hc:0<=c):(ov l c).getD i 0=l.getD i 0+(if c=(i:Int) then 1 else 0):=by
 unfold ov
 by_cases e:c.toNat=i
 ·subst e
  rw[gD,List.getElem?_set_self hi,if_pos (by omega)]
  rfl
 ·rw[gD,List.getElem?_set_ne e,<-gD,if_neg (by omega),Int.add_zero]
def zM (nodes:List dW) (k:Nat):Nat->List Int
 |0=>gP nodes k
 |1=>ov (gP nodes k) (nodes.getD k an).left
 |_=>ov (ov (gP nodes k) (nodes.getD k an).left) (nodes.getD k an).right
theorem uj (nodes:List dW) (k j:Nat):(zM nodes k j).length=nodes.length:=by
 unfold zM;split<;>simp[ui,gH]
theorem zN {nodes:List dW} {k:Nat} (hv:(nodes.getD k an).var≠-1) (hl:0<=(nodes.getD k an).left) (hr:0<=(nodes.getD k an).right):zM nodes k 2=gP nodes (k+1):=by
 apply List.ext_getElem
 ·rw[uj,gH]
 ·intro i h1 h2
  have hi:i<nodes.length:=by rw[uj] at h1;exact h1
  have e:=sc (l:=ov (gP nodes k) (nodes.getD k an).left) (c:=(nodes.getD k an).right) (i:=i) (by rw[ui,gH];exact hi) hr
  rw[sc (by rw[gH];exact hi) hl,iI hi] at e
  have e2:=iI (k:=k+1) hi
  rw[ap 0 h2] at e2
  rw[e2,gh,if_neg hv]
  have e3:(zM nodes k 2).getD i 0=(zM nodes k 2)[i]:=ap 0 h1
  rw[<-e3]
  show(ov (ov (gP nodes k) (nodes.getD k an).left) (nodes.getD k an).right).getD i 0=_
  rw[e]
  omega
theorem v9 {nodes:List dW} {k:Nat} (hv:(nodes.getD k an).var=-1):gP nodes (k+1)=gP nodes k:=by
 unfold gP
 congr 1
 funext i
 rw[gh,if_pos hv,Int.add_zero]
theorem zO (n:Nat) (nodes:List dW) (hn:n<=1000) (ho:HF nodes):ah Tryz.prog 141 [.int .i64 n, .agg [.sl an aK nodes]] (fun u=>u= .bool (decide (BH n nodes))):=by
 have ho1:=ho.1
 refine ah.intro ab ac Tryz.func141 rfl (by decide) ?_;(conv=>whnf)
 refine au rfl ?_
 conv=>whnf
 refine ae ?_ ?_<;>(intro h;conv=>whnf)
 ·exact⟨aA (fun hh=>by have:=hh.1;omega),rfl⟩
 refine ae (fun h'=>?_) (fun h'=>?_)<;>conv=>whnf
 ·exact⟨aA (fun hh=>by have:=hh.1;omega),rfl⟩
 refine x7 0 al 0 rfl (by dsimp only;omega) ?_
 rw[tN,<-v8]
 conv=>whnf
 refine aJ.loopF ab ac (fun k:Nat=>k<=nodes.length/\(∀i,i<k->lB n nodes.length i (nodes.getD i an))/\(d7 nodes k:Int)<=140737488355328*(k:Int)) (fun k=>[(30, .int .i64 (k:Int)),(6, .int .i64 (d7 nodes k:Int))]) (fun k=>[(26, .row 3 0 al (gP nodes k))]) (fun k=>nodes.length-k) 0 ⟨Nat.zero_le _,fun j hj=>absurd hj (Nat.not_lt_zero _),by simp[d7]⟩ ?_;conv=>whnf
 refine⟨sI,?_⟩
 rintro k ⟨hk,ha,hb⟩
 conv=>whnf
 refine ae ?_ ?_<;>(intro h1;conv=>whnf)
 ·have hlt:k<nodes.length:=by omega
  have hln:=(ho.2 k hlt).1
  have hlin:(d7 nodes (k+1):Int)=(d7 nodes k:Int)+((nodes.getD k an).lines.length:Int):=by rw[d7];push_cast;rfl
  refine nI ?_
  rw[tN]
  conv=>whnf
  refine aI ?_
  conv=>whnf
  refine ae ?_ ?_<;>(intro h2;conv=>whnf)
  ·repeat' ((first|refine nI ?_|refine aI ?_|refine uI ?_|refine vI ?_|refine dI ?_|refine dR ?_|refine dP ?_|refine au rfl ?_|refine pI _ rfl ?_|refine ak _ rfl ?_|refine tI ?_|refine fI ?_|refine ae (fun _=>?_) (fun _=>?_))<;>conv=>whnf)
   refine⟨k+1,?_,⟨by omega,fun i hi=>?_,by omega⟩,by dsimp only;omega⟩
   ·dsimp only
    rw[v9 h2,hlin]
    exact sI
   ·by_cases e:i=k
    ·subst e;exact .inl h2
    ·exact ha i (by omega)
  have no:¬((0<=(nodes.getD k an).var/\(nodes.getD k an).var<(n:Int))/\(0<=(nodes.getD k an).at_/\(nodes.getD k an).at_<=1048576)/\((k:Int)<(nodes.getD k an).left/\(nodes.getD k an).left<nodes.length)/\((k:Int)<(nodes.getD k an).right/\(nodes.getD k an).right<nodes.length))->¬BH n nodes:=fun h hh=>by
   have:=hh.2.1 k hlt
   unfold lB at this
   rcases this with h3|h3
   ·exact h2 h3
   ·exact h h3
  refine ae ?_ ?_<;>(intro h3;conv=>whnf)
  ·exact⟨aA (no (by omega)),rfl⟩
  refine ae ?_ ?_<;>(intro h4;conv=>whnf)
  ·exact⟨aA (no (by omega)),rfl⟩
  refine ae ?_ ?_<;>(intro h5;conv=>whnf)
  ·exact⟨aA (no (by omega)),rfl⟩
  refine ae ?_ ?_<;>(intro h6;conv=>whnf)
  ·exact⟨aA (no (by omega)),rfl⟩
  refine aJ.loopF ab ac (fun j:Nat=>j<=2/\∀i,i<j->(k:Int)<[(nodes.getD k an).left,(nodes.getD k an).right].getD i 0/\[(nodes.getD k an).left,(nodes.getD k an).right].getD i 0<nodes.length) (fun j=>[(68, .int .i64 (j:Int))]) (fun j=>[(26, .row 3 0 al (zM nodes k j)),(8, .box 217 (aK (nodes.getD k an))),(66, .row 3 0 al [(nodes.getD k an).left,(nodes.getD k an).right])]) (fun j=>2-j) 0 ⟨Nat.zero_le _,fun j hj=>absurd hj (Nat.not_lt_zero _)⟩ ?_;conv=>whnf
  refine⟨sI,?_⟩
  rintro j ⟨hj,hc⟩
  conv=>whnf
  refine ae ?_ ?_<;>(intro h7;conv=>whnf)
  ·have hj2:j<2:=by omega
   refine nI ?_
   rw[tN]
   conv=>whnf
   have hdo:(j=0/\[(nodes.getD k an).left,(nodes.getD k an).right].getD j 0=(nodes.getD k an).left)\/(j=1/\[(nodes.getD k an).left,(nodes.getD k an).right].getD j 0=(nodes.getD k an).right):=by
    rcases(show j=0\/j=1 by omega) with rfl|rfl
    ·exact .inl ⟨rfl,rfl⟩
    ·exact .inr ⟨rfl,rfl⟩
   refine ae ?_ ?_<;>(intro h8;conv=>whnf)
   ·exact⟨aA (no (by omega)),rfl⟩
   refine ae ?_ ?_<;>(intro h9;conv=>whnf)
   ·exact⟨aA (no (by omega)),rfl⟩
   have lP:=uj nodes k j
   refine nI ?_
   conv=>whnf
   have hv:0<=(zM nodes k j).getD ([(nodes.getD k an).left,(nodes.getD k an).right].getD j 0).toNat 0/\(zM nodes k j).getD ([(nodes.getD k an).left,(nodes.getD k an).right].getD j 0).toNat 0<=2*(k:Int)+2:=by
    have hp:=xw nodes (([(nodes.getD k an).left,(nodes.getD k an).right].getD j 0).toNat:Nat) k
    rcases hdo with ⟨rfl,e⟩|⟨rfl,e⟩
    ·show 0<=(gP nodes k).getD _ 0/\(gP nodes k).getD _ 0<=_
     rw[iI (by omega)]
     omega
    ·have:=(hc 0 (by omega)).1
     have e0:[(nodes.getD k an).left,(nodes.getD k an).right].getD 0 0=(nodes.getD k an).left:=rfl
     rw[e0] at this
     show 0<=(ov (gP nodes k) (nodes.getD k an).left).getD _ 0/\(ov (gP nodes k) (nodes.getD k an).left).getD _ 0<=_
     rw[sc (by rw[gH];omega) (by omega),iI (by omega)]
     split<;>omega
   refine aI ?_
   conv=>whnf
   refine nI ?_
   conv=>whnf
   refine ak _ rfl ?_
   conv=>whnf
   repeat' ((first|refine nI ?_|refine aI ?_|refine uI ?_|refine vI ?_|refine dI ?_|refine dR ?_|refine dP ?_|refine au rfl ?_|refine pI _ rfl ?_|refine ak _ rfl ?_|refine tI ?_|refine fI ?_|refine ae (fun _=>?_) (fun _=>?_))<;>conv=>whnf)
   refine⟨j+1,?_,⟨by omega,fun i hi=>?_⟩,by dsimp only;omega⟩
   ·dsimp only
    rcases hdo with ⟨rfl,e⟩|⟨rfl,e⟩
    ·exact sI
    ·exact sI
   ·by_cases e:i=j
    ·subst e;omega
    ·exact hc i (by omega)
  ·obtain rfl:j=2:=by omega
   have c0:=hc 0 (by omega)
   have c1:=hc 1 (by omega)
   have e0:[(nodes.getD k an).left,(nodes.getD k an).right].getD 0 0=(nodes.getD k an).left:=rfl
   have e1:[(nodes.getD k an).left,(nodes.getD k an).right].getD 1 0=(nodes.getD k an).right:=rfl
   rw[e0] at c0
   rw[e1] at c1
   repeat' ((first|refine nI ?_|refine aI ?_|refine uI ?_|refine vI ?_|refine dI ?_|refine dR ?_|refine dP ?_|refine au rfl ?_|refine pI _ rfl ?_|refine ak _ rfl ?_|refine tI ?_|refine fI ?_|refine ae (fun _=>?_) (fun _=>?_))<;>conv=>whnf)
   refine⟨k+1,?_,⟨by omega,fun i hi=>?_,by omega⟩,by dsimp only;omega⟩
   ·dsimp only
    rw[<-zN h2 (by omega) (by omega),hlin]
    exact sI
   ·by_cases e:i=k
    ·subst e;exact .inr ⟨by omega,by omega,by omega,by omega⟩
    ·exact ha i (by omega)
 ·obtain rfl:k=nodes.length:=by omega
  have lP:=gH nodes nodes.length
  refine aJ.loopF ab ac (fun j:Nat=>j<=nodes.length/\∀i,i<j->0<i->gh nodes i nodes.length=1) (fun j=>[(92, .int .i64 (j:Int))]) (fun j=>[(26, .row 3 0 al (gP nodes nodes.length))]) (fun j=>nodes.length-j) 0 ⟨Nat.zero_le _,fun j hj=>absurd hj (Nat.not_lt_zero _)⟩ ?_;conv=>whnf
  refine⟨sI,?_⟩
  rintro j ⟨hj,hc⟩
  conv=>whnf
  refine ae ?_ ?_<;>(intro h2;conv=>whnf)
  ·refine nI ?_
   rw[tN]
   conv=>whnf
   rw[iI (show j<nodes.length by omega)]
   conv=>whnf
   refine ae ?_ ?_<;>(intro h3;conv=>whnf)
   ·refine ae ?_ ?_<;>(intro h4;conv=>whnf)
    ·exact⟨aA (fun hh=>h4 (hh.2.2.1 j (by omega) (by omega))),rfl⟩
    ·repeat' ((first|refine nI ?_|refine aI ?_|refine uI ?_|refine vI ?_|refine dI ?_|refine dR ?_|refine dP ?_|refine au rfl ?_|refine pI _ rfl ?_|refine ak _ rfl ?_|refine tI ?_|refine fI ?_|refine ae (fun _=>?_) (fun _=>?_))<;>conv=>whnf)
     refine⟨j+1,sI,⟨by omega,fun i hi h0=>?_⟩,by dsimp only;omega⟩
     by_cases e:i=j
     ·subst e;exact Classical.not_not.1 h4
     ·exact hc i (by omega) h0
   ·repeat' ((first|refine nI ?_|refine aI ?_|refine uI ?_|refine vI ?_|refine dI ?_|refine dR ?_|refine dP ?_|refine au rfl ?_|refine pI _ rfl ?_|refine ak _ rfl ?_|refine tI ?_|refine fI ?_|refine ae (fun _=>?_) (fun _=>?_))<;>conv=>whnf)
    refine⟨j+1,sI,⟨by omega,fun i hi h0=>?_⟩,by dsimp only;omega⟩
    exact hc i (by omega) h0
  ·obtain rfl:j=nodes.length:=by omega
   refine ae ?_ ?_<;>(intro h3;conv=>whnf)
   ·exact⟨bE ⟨by omega,ha,hc,by omega⟩,rfl⟩
   ·exact⟨aA (fun hh=>h3 (by have:=hh.2.2.2;omega)),rfl⟩
def BO (n:Nat) (nodes:List dW) (rows:List aV):List (Nat×bf):=[(7001, .box 223 [.int .i64 n, .sl an aK nodes, .row 7003 rows.length 2]),(7002, .dead),(7003, .row 161 ar aw rows)]
def MT (n:Nat) (nodes:List dW) (rows:List aV) (b:Bool) (u:AV) (M:ag):Prop:=u= .bool b/\∃ex,ex.length<=400/\M=ag.ofL (BO n nodes (rows++ex))
theorem HG (n:Nat) (nodes:List dW) (rows:List aV) (i:Int) (sp:aV) (b:Bool) (hl:rows.length<=1000000)
  (h:aj Tryz.prog 142 [.ptr 7001 0, .int .i64 i] (ag.ofL (jb n nodes (rows++[sp]))) (MT n nodes (rows++[sp]) b)):
  aj Tryz.prog 225 [.ptr 7001 0, .int .i64 i, .agg (aw sp)] (ag.ofL (jb n nodes rows)) (fun u M=>u= .bool b/\M=ag.ofL (BO n nodes rows)):=by
 refine aj.renorm 400 (R:=fun u M=>u= .bool b/\bG [(7001, .old 7001),(7002, .old 7002),(7003, .old 33)] 400 M (BO n nodes rows)) ?_ ?_
 case refine_2=>
  rintro u M' ⟨rfl,hM⟩
  exact⟨_,_, .bool b,rfl,hM,rfl,rfl,rfl⟩
 refine aj.intro ab ac (jb n nodes rows) Tryz.func225 rfl (by decide) ?_
 conv=>whnf
 refine au rfl ?_
 conv=>whnf
 first|refine dI ?_|refine iV (by decide+kernel) ?_
 conv=>whnf
 refine bp ar aw [sp] rfl ?_
 conv=>whnf
 refine bU ?_
 conv=>whnf
 refine bq [sp] rfl lI ?_
 conv=>whnf
 refine aj.call [(7001, .old 7001),(7002, .old 21)] (jb n nodes (rows++[sp])) 400 rfl (aa) (aa) h ?_
 rintro u M' ⟨rfl,ex,hex,rfl⟩
 refine⟨[(7001, .old 7001),(21, .old 7002),(1000, .old 7003)],[(7001, .box 223 [.int .i64 n, .sl an aK nodes, .row 1000 (rows++[sp]++ex).length 2]),(21, .dead),(1000, .row 161 ar aw (rows++[sp]++ex))], .bool b,rfl,(aa),rfl,?_⟩
 conv=>whnf
 refine FP ?_
 conv=>whnf
 refine bg (by simp only[List.length_append];omega) ?_
 rw[tN,show(rows++[sp]++ex).take rows.length=rows by rw[List.append_assoc,List.take_left]]
 conv=>whnf
 exact⟨rfl,aa⟩
def OW (n:Nat) (nodes:List dW) (i:Nat) (rows:List aV):List (Nat×bf):=[(7001, .box 223 [.int .i64 n, .sl an aK nodes, .row 1000 rows.length 2]),(7002, .dead),(1000, .row 161 ar aw rows),(5, .box 217 (aK (nodes.getD i an)))]
theorem zP {n:Nat} {rows:List aV} {l:List kR}:∀{k:Nat} {a:List aV},oH n rows l k=some a->∃ex,ex.length=k/\a=rows++ex
 |0,a,h=>by cases h;exact⟨[],rfl,by simp⟩
 |k+1,a,h=>by
  rw[oH] at h
  cases hk:oH n rows l k with
  |none=>rw[hk] at h;cases h
  |some b=>
   rw[hk] at h
   dsimp only at h
   obtain⟨ex,h1,rfl⟩:=zP hk
   split at h
   ·cases h
    exact⟨ex++[j0 n (rows++ex) (l.getD k lA)],by simp[h1],by simp⟩
   ·cases h
theorem zQ {n:Nat} {rows:List aV} {l:List kR} {k:Nat} (h:oH n rows l k=none):∀m,k<=m->oH n rows l m=none:=by
 intro m hm
 induction m with
 |zero=>rw[Nat.le_zero.1 hm] at h;exact h
 |succ m ih=>
  by_cases e:k=m+1
  ·rw[<-e];exact h
  ·rw[oH,ih (by omega)]
theorem HH (n:Nat) (nodes:List dW) (hn:n<=96) (ho:HF nodes) (hw:BH n nodes):∀(m i:Nat) (rows:List aV),i<nodes.length->nodes.length-i<=m->kC n rows->rows.length+401*(nodes.length-i)<=500000->
  aj Tryz.prog 142 [.ptr 7001 0, .int .i64 (i:Int)] (ag.ofL (jb n nodes rows)) (MT n nodes rows (jL n nodes m i rows))
 |0,i,rows,hi,hm,_,_=>by omega
 |m+1,i,rows,hi,hm,hr,hl=>by
  have hlen:=hw.1
  have hlin:(nodes.getD i an).lines.length<=400:=Nat.le_trans (xx nodes hi) hw.2.2.2
  have hok:=(ho.2 i hi).2
  refine aj.renorm 400 (R:=fun u M=>u= .bool (jL n nodes (m+1) i rows)/\∃ex,ex.length<=400/\(bG [(7001, .old 7001),(7002, .old 7002),(7003, .old 1000)] 400 M (BO n nodes (rows++ex))\/
   bG [(7001, .old 7001),(7002, .old 7002),(7003, .old 1001)] 400 M (BO n nodes (rows++ex))\/bG [(7001, .old 7001),(7002, .old 7002),(7003, .old 1002)] 400 M (BO n nodes (rows++ex)))) ?_ ?_
  case refine_2=>
   rintro u M' ⟨rfl,ex,hex,hM|hM|hM⟩
   ·exact⟨_,_, .bool (jL n nodes (m+1) i rows),rfl,hM,rfl,rfl,ex,hex,rfl⟩
   ·exact⟨_,_, .bool (jL n nodes (m+1) i rows),rfl,hM,rfl,rfl,ex,hex,rfl⟩
   ·exact⟨_,_, .bool (jL n nodes (m+1) i rows),rfl,hM,rfl,rfl,ex,hex,rfl⟩
  rw[jL]
  refine aj.intro ab ac (jb n nodes rows) Tryz.func142 rfl (by decide) ?_
  conv=>whnf
  refine nI ?_
  rw[tN]
  conv=>whnf
  refine aJ.loopF ab ac (fun x:Nat×List aV=>x.1<=(nodes.getD i an).lines.length/\oH n rows (nodes.getD i an).lines x.1=some x.2) (fun x=>[(22, .int .i64 (x.1:Int))]) (fun x=>OW n nodes i x.2) (fun x=>(nodes.getD i an).lines.length-x.1) (0,rows) ⟨Nat.zero_le _,rfl⟩ ?_;conv=>whnf
  refine⟨aH.by_ [(7001, .old 7001),(7002, .old 7002),(1000, .old 7002),(5, .old 5)] _ 400 rfl (aa) (aa),?_⟩
  rintro⟨k,a⟩ ⟨hk,ha⟩
  dsimp only at hk ha
  obtain⟨hra,hla⟩:=pD hr ha
  obtain⟨ex,hex,hae⟩:=zP ha
  conv=>whnf
  refine ae ?_ ?_<;>(intro h1;conv=>whnf)
  ·have hlt:k<(nodes.getD i an).lines.length:=by omega
   refine nI ?_
   rw[tN]
   conv=>whnf
   refine aj.call [(7001, .old 7001),(7002, .old 1000)] (jb n nodes a) 400 rfl (aa) (aa) (De n nodes a ((nodes.getD i an).lines.getD k lA) hn hra (by omega) (hok k hlt)) ?_
   rintro u M' ⟨hu,rfl⟩
   rcases hu with ⟨hb,rfl⟩|⟨hb,r,rfl⟩
   ·refine⟨[(7001, .old 7001),(1000, .old 7002)],[(7001, .box 223 [.int .i64 n, .sl an aK nodes, .row 1000 a.length 2]),(1000, .row 161 ar aw a)], .tup [.agg (aw (j0 n a ((nodes.getD i an).lines.getD k lA))), .bool true],rfl,(aa),(aa),?_⟩
    conv=>whnf
    first|refine dI ?_|refine iV (by decide+kernel) ?_
    conv=>whnf
    refine bp ar aw [j0 n a ((nodes.getD i an).lines.getD k lA)] rfl ?_
    conv=>whnf
    refine bU ?_
    conv=>whnf
    refine bq [j0 n a ((nodes.getD i an).lines.getD k lA)] rfl lI ?_
    conv=>whnf
    repeat' ((first|refine nI ?_|refine aI ?_|refine uI ?_|refine vI ?_|refine dI ?_|refine dR ?_|refine dP ?_|refine au rfl ?_|refine pI _ rfl ?_|refine ak _ rfl ?_|refine tI ?_|refine fI ?_|refine ae (fun _=>?_) (fun _=>?_))<;>conv=>whnf)
    refine⟨(k+1,a++[j0 n a ((nodes.getD i an).lines.getD k lA)]),?_,⟨by dsimp only;omega,?_⟩,by dsimp only;omega⟩
    ·exact aH.by_ [(7001, .old 7001),(7002, .old 7002),(1000, .old 41),(5, .old 5)] _ 400 rfl (aa) (aa)
    ·dsimp only
     rw[oH,ha]
     dsimp only
     rw[if_pos hb]
   ·refine⟨[(7001, .old 7001),(1000, .old 7002)],[(7001, .box 223 [.int .i64 n, .sl an aK nodes, .row 1000 a.length 2]),(1000, .row 161 ar aw a)], .tup [.agg (aw r), .bool false],rfl,(aa),(aa),?_⟩
    conv=>whnf
    have hno:oH n rows (nodes.getD i an).lines (nodes.getD i an).lines.length=none:=by
     refine zQ (k:=k+1) ?_ _ (by omega)
     rw[oH,ha]
     dsimp only
     rw[if_neg hb]
    rw[hno]
    refine⟨rfl,ex,by omega, .inl ?_⟩
    rw[<-hae]
    exact(aa)
  ·obtain rfl:k=(nodes.getD i an).lines.length:=by omega
   rw[ha]
   dsimp only
   have hv:=hw.2.1 i hi
   unfold lB at hv
   by_cases h2:(nodes.getD i an).var=-1
   ·refine cO h2 ?_
    rw[if_pos h2]
    conv=>whnf
    refine aJ.loopF ab ac (fun j:Nat=>j<=a.length/\∀y,y<j->¬t4 (a.getD y ar)) (fun j=>[(53, .int .i64 (j:Int))]) (fun j=>OW n nodes i a) (fun j=>a.length-j) 0 ⟨Nat.zero_le _,fun j hj=>absurd hj (Nat.not_lt_zero _)⟩ ?_;conv=>whnf
    refine⟨sI,?_⟩
    rintro j ⟨hj,hc⟩
    conv=>whnf
    refine ae ?_ ?_<;>(intro h3;conv=>whnf)
    ·refine nI ?_
     rw[tN]
     conv=>whnf
     have hwj:=hra j (by omega)
     refine dC (jC (a.getD j ar) (by omega)) (fun _=>?_) (fun _=>?_)<;>(conv=>whnf)
     ·rename_i h4
      refine⟨bE ⟨j,by omega,h4⟩,ex,by omega, .inl ?_⟩
      rw[<-hae]
      exact(aa)
     ·rename_i h4
      repeat' ((first|refine nI ?_|refine aI ?_|refine uI ?_|refine vI ?_|refine dI ?_|refine dR ?_|refine dP ?_|refine au rfl ?_|refine pI _ rfl ?_|refine ak _ rfl ?_|refine tI ?_|refine fI ?_|refine ae (fun _=>?_) (fun _=>?_))<;>conv=>whnf)
      refine⟨j+1,sI,⟨by omega,fun y hy=>?_⟩,by dsimp only;omega⟩
      by_cases e:y=j
      ·subst e;exact h4
      ·exact hc y (by omega)
    ·refine⟨aA (fun⟨y,h4,h5⟩=>hc y (by omega) h5),ex,by omega, .inl ?_⟩
     rw[<-hae]
     exact(aa)
   ·refine cX h2 ?_
    rw[if_neg h2]
    conv=>whnf
    obtain⟨v1,v2,v3,v4⟩:=hv.resolve_left h2
    have hL:=HH n nodes hn ho hw m (nodes.getD i an).left.toNat (a++[gi n (nodes.getD i an).var (nodes.getD i an).at_]) (by omega) (by omega) (ip hra (j6 (.inr rfl) (by unfold ia;omega))) (by rw[List.length_append];simp only[List.length_cons,List.length_nil];omega)
    have hR:=HH n nodes hn ho hw m (nodes.getD i an).right.toNat (a++[gj n (nodes.getD i an).var ((nodes.getD i an).at_+1)]) (by omega) (by omega) (ip hra (j6 (.inl rfl) (by unfold ia;omega))) (by rw[List.length_append];simp only[List.length_cons,List.length_nil];omega)
    rw[Int.toNat_of_nonneg (by omega)] at hL hR
    generalize jL n nodes m (nodes.getD i an).left.toNat (a++[gi n (nodes.getD i an).var (nodes.getD i an).at_])=bL at hL⊢
    generalize jL n nodes m (nodes.getD i an).right.toNat (a++[gj n (nodes.getD i an).var ((nodes.getD i an).at_+1)])=bR at hR⊢
    have cL:=HG n nodes a _ _ bL (by omega) hL
    have cR:=HG n nodes a _ _ bR (by omega) hR
    refine rc .any [72,87] (by decide+kernel) ?_
    conv=>whnf
    (refine oC (Dd n (nodes.getD i an).var (nodes.getD i an).at_ (by omega) v1) ?_;conv=>whnf)
    refine aj.call [(7001, .old 7001),(7002, .old 1000)] (jb n nodes a) 400 rfl (aa) (aa) cL ?_
    rintro u M' ⟨rfl,rfl⟩
    refine⟨[(7001, .old 7001),(1000, .old 7002),(1001, .old 7003)],[(7001, .box 223 [.int .i64 n, .sl an aK nodes, .row 1001 a.length 2]),(1000, .dead),(1001, .row 161 ar aw a)], .bool bL,rfl,(aa),rfl,?_⟩
    cases bL with
    |false=>
     conv=>whnf
     refine⟨rfl,ex,by omega, .inr (.inl ?_)⟩
     rw[<-hae]
     exact(aa)
    |true=>
     conv=>whnf
     refine aI ?_
     conv=>whnf
     (refine oC (zL n (nodes.getD i an).var ((nodes.getD i an).at_+1) (by omega) v1 (by omega)) ?_;conv=>whnf)
     refine aj.call [(7001, .old 7001),(7002, .old 1001)] (jb n nodes a) 400 rfl (aa) (aa) cR ?_
     rintro u M' ⟨rfl,rfl⟩
     refine⟨[(7001, .old 7001),(1001, .old 7002),(1002, .old 7003)],[(7001, .box 223 [.int .i64 n, .sl an aK nodes, .row 1002 a.length 2]),(1001, .dead),(1002, .row 161 ar aw a)], .bool bR,rfl,(aa),rfl,?_⟩
     conv=>whnf
     refine⟨rfl,ex,by omega, .inr (.inr ?_)⟩
     rw[<-hae]
     exact(aa)
theorem qM (s:dF) (nodes:List dW) (hs:NE s) (ho:HF nodes):ah Tryz.prog 62 [.agg (mG s), .agg [.sl an aK nodes]] (fun u=>u= .bool (decide (qG s nodes))):=by
 have ho1:=ho.1
 refine ah.intro ab ac Tryz.func62 rfl (by decide) ?_;(conv=>whnf)
 refine au rfl ?_
 conv=>whnf
 refine au rfl ?_
 conv=>whnf
 (refine oP (v5 s hs) ?_;conv=>whnf)
 refine ae ?_ ?_<;>(intro h;conv=>whnf)
 ·exact⟨aA (fun hh=>h hh.1),rfl⟩
 have h0:eZ s=0:=Classical.not_not.1 h
 obtain⟨a1,a2,a3,a4⟩:=lw h0
 have hw:=zO s.vars.toNat nodes (by omega) ho
 rw[Int.toNat_of_nonneg a1.1] at hw
 refine dC (hw) (fun _=>?_) (fun _=>?_)<;>(conv=>whnf)
 case refine_2=>rename_i h2;exact⟨aA (fun hh=>h2 hh.2.1),rfl⟩
 rename_i h2
 refine nI ?_
 conv=>whnf
 have hN:=HH s.vars.toNat nodes (by omega) ho h2 nodes.length 0 s.rows (by have:=h2.1;omega) (by omega) (r8 h0) (by have:=h2.1;omega)
 have ev:((s.vars.toNat:Nat):Int)=s.vars:=Int.toNat_of_nonneg a1.1
 unfold jb MT BO at hN
 rw[ev] at hN
 refine aj.call [(7001, .old 5),(7002, .old 25)] [(7001, .box 223 [.int .i64 s.vars, .sl an aK nodes, .row 7002 s.rows.length 2]),(7002, .row 161 ar aw s.rows)] 400 rfl (aa) (aa) hN ?_
 rintro u M' ⟨rfl,ex,hex,rfl⟩
 refine⟨[(5, .old 7001),(25, .old 7002),(1000, .old 7003)],[(5, .box 223 [.int .i64 s.vars, .sl an aK nodes, .row 1000 (s.rows++ex).length 2]),(25, .dead),(1000, .row 161 ar aw (s.rows++ex))], .bool (jL s.vars.toNat nodes nodes.length 0 s.rows),rfl,(aa),rfl,?_⟩
 conv=>whnf
 refine⟨?_,rfl⟩
 refine NW ?_
 cases hc:jL s.vars.toNat nodes nodes.length 0 s.rows with
 |true=>exact(decide_eq_true (p:=qG s nodes) ⟨h0,h2,hc⟩).symm
 |false=>exact(decide_eq_false (p:=qG s nodes) fun h=>by have:=h.2.2;rw[hc] at this;cases this).symm
def aC:Nat->(Nat->Int)->Int
 |0,_=>0
 |n+1,f=>aC n f+f n
theorem aU {n:Nat} {f g:Nat->Int} (h:∀i,i<n->f i=g i):aC n f=aC n g:=by
 induction n with
 |zero=>rfl
 |succ n ih=>rw[aC,aC,ih fun i hi=>h i (by omega),h n (by omega)]
theorem HI (n:Nat) (a b:Int) (f g:Nat->Int):aC n (fun i=>a*f i+b*g i)=a*aC n f+b*aC n g:=by
 induction n with
 |zero=>simp[aC]
 |succ n ih=>rw[aC,aC,aC,ih,Int.mul_add,Int.mul_add];omega
theorem ge (n:Nat) (f:Nat->Int) (h:∀i,i<n->f i=0):aC n f=0:=by
 rw[aU h]
 induction n with
 |zero=>rfl
 |succ n ih=>rw[aC,ih fun i hi=>h i (by omega)];rfl
theorem gI {n:Nat} {f:Nat->Int} {r:Nat} (hr:r<n) (h:∀i,i<n->i≠r->f i=0):aC n f=f r:=by
 induction n with
 |zero=>omega
 |succ n ih=>
  rw[aC]
  by_cases e:r=n
  ·subst e;rw[ge r f fun i hi=>h i (by omega) (by omega)];omega
  ·rw[ih (by omega) fun i hi he=>h i (by omega) he,h n (by omega) (by omega)];omega
theorem zR {n:Nat} {f:Nat->Int} {r s:Nat} (hr:r<n) (hs:s<n) (hrs:r≠s) (h:∀i,i<n->i≠r->i≠s->f i=0):aC n f=f r+f s:=by
 induction n with
 |zero=>omega
 |succ n ih=>
  rw[aC]
  by_cases e:r=n
  ·subst e;rw[gI (r:=s) (by omega) fun i hi he=>h i (by omega) (by omega) he];omega
  ·by_cases e2:s=n
   ·subst e2;rw[gI (r:=r) (by omega) fun i hi he=>h i (by omega) he (by omega)]
   ·rw[ih (by omega) (by omega) fun i hi a b=>h i (by omega) a b,h n (by omega) (by omega) (by omega)];omega
abbrev Cl:=Nat->Nat->Int
def xI (i:Nat) (B:Cl):Cl:=fun k c=>B (if k<i then k else k+1) (c+1)
def ET (i:Nat):Int:=if i % 2=0 then 1 else -1
theorem MU (i:Nat):ET (i+1)=-ET i:=by
 unfold ET
 split<;>split<;>omega
def bZ:Nat->Cl->Int
 |0,_=>1
 |m+1,B=>aC (m+1) fun i=>ET i*(B i 0*bZ m (xI i B))
def bw (B:Cl) (r:Nat) (v:Nat->Int):Cl:=fun k=>if k=r then v else B k
theorem dj (B:Cl) (r:Nat) (v:Nat->Int):bw B r v r=v:=by simp[bw]
theorem eM (B:Cl) {r k:Nat} (v:Nat->Int) (h:k≠r):bw B r v k=B k:=by simp[bw,h]
theorem jc:∀(m:Nat) (B C:Cl),(∀k c,k<m->c<m->B k c=C k c)->bZ m B=bZ m C
 |0,_,_,_=>rfl
 |m+1,B,C,h=>by
  rw[bZ,bZ]
  refine aU fun i hi=>?_
  rw[h i 0 hi (by omega),jc m (xI i B) (xI i C) fun k c hk hc=>?_]
  unfold xI
  refine h _ _ ?_ (by omega)
  split<;>omega
theorem xJ {B:Cl} {i r:Nat} {v:Nat->Int} (h:i≠r):xI i (bw B r v)=bw (xI i B) (if r<i then r else r-1) (fun c=>v (c+1)):=by
 funext k c
 unfold xI bw
 by_cases hk:k<i
 ·rw[if_pos hk]
  by_cases e:k=r
  ·rw[if_pos e,if_pos (by rw[if_pos (by omega)];exact e)]
  ·rw[if_neg e,if_neg (by split<;>omega)]
   dsimp only
   rw[if_pos hk]
 ·rw[if_neg hk]
  by_cases e:k+1=r
  ·rw[if_pos e,if_pos (by rw[if_neg (by omega)];omega)]
  ·rw[if_neg e,if_neg (by split<;>omega)]
   dsimp only
   rw[if_neg hk]
theorem zS {B:Cl} {r:Nat} {v w:Nat->Int}:xI r (bw B r v)=xI r (bw B r w):=by
 funext k c
 unfold xI bw
 by_cases hk:k<r
 ·rw[if_pos hk,if_neg (by omega),if_neg (by omega)]
 ·rw[if_neg hk,if_neg (by omega),if_neg (by omega)]
theorem j':∀(m:Nat) (B:Cl) (r:Nat) (u v:Nat->Int) (a b:Int),r<m->bZ m (bw B r (fun c=>a*u c+b*v c))=a*bZ m (bw B r u)+b*bZ m (bw B r v)
 |0,_,_,_,_,_,_,h=>by omega
 |m+1,B,r,u,v,a,b,h=>by
  rw[bZ,bZ,bZ,<-HI]
  refine aU fun i hi=>?_
  by_cases e:i=r
  ·subst e
   rw[dj,dj,dj,zS (v:=fun c=>a*u c+b*v c) (w:=u),zS (v:=v) (w:=u)]
   generalize bZ m (xI i (bw B i u))=x
   generalize ET i=s
   rw[Int.add_mul,Int.mul_add]
   congr 1<;>rw[Int.mul_assoc,Int.mul_left_comm]
  ·rw[eM _ _ e,eM _ _ e,eM _ _ e,xJ e,xJ e,xJ e,j' m _ _ (fun c=>u (c+1)) (fun c=>v (c+1)) a b (by split<;>omega)]
   generalize bZ m _=x
   generalize bZ m _=y
   generalize B i 0=z
   generalize ET i=s
   rw[Int.mul_add,Int.mul_add]
   congr 1<;>rw[Int.mul_left_comm z,Int.mul_left_comm s]
theorem sd:∀(m:Nat) (B:Cl) (r:Nat),r+1<m->(∀c,B r c=B (r+1) c)->bZ m B=0
 |0,_,_,h,_=>by omega
 |m+1,B,r,h,he=>by
  rw[bZ,zR (r:=r) (s:=r+1) (by omega) h (by omega)]
  ·have e:xI (r+1) B=xI r B:=by
    funext k c
    unfold xI
    by_cases h1:k<r
    ·rw[if_pos h1,if_pos (by omega)]
    ·by_cases h2:k=r
     ·subst h2;rw[if_pos (by omega),if_neg (by omega),he]
     ·rw[if_neg (by omega),if_neg h1]
   rw[e,<-he,MU,Int.neg_mul]
   omega
  ·intro i hi h1 h2
   have:bZ m (xI i B)=0:=by
    by_cases hlt:i<r
    ·refine sd m _ (r-1) (by omega) fun c=>?_
     unfold xI
     rw[if_neg (by omega),if_neg (by omega),show r-1+1=r by omega]
     exact he _
    ·refine sd m _ r (by omega) fun c=>?_
     unfold xI
     rw[if_pos (by omega),if_pos (by omega)]
     exact he _
   rw[this,Int.mul_zero,Int.mul_zero]
def BP (B:Cl) (r s:Nat):Cl:=bw (bw B r (B s)) s (B r)
theorem pK {m:Nat} {B:Cl} {r s:Nat} (hr:r<m) (hs:s<m) (hrs:r≠s) (h0:∀C:Cl,(∀c,C r c=C s c)->bZ m C=0):bZ m (BP B r s)=-bZ m B:=by
 have key:∀u v:Nat->Int,bZ m (bw (bw B r u) s v)+bZ m (bw (bw B r v) s u)=0:=by
  intro u v
  have add2:∀x y:Nat->Int,bZ m (bw (bw B r (fun c=>1*x c+1*y c)) s (fun c=>1*x c+1*y c))=bZ m (bw (bw B r x) s x)+bZ m (bw (bw B r x) s y)+(bZ m (bw (bw B r y) s x)+bZ m (bw (bw B r y) s y)):=by
   intro x y
   have comm:∀p q:Nat->Int,bw (bw B r p) s q=bw (bw B s q) r p:=by
    intro p q;funext k
    unfold bw
    by_cases h1:k=s
    ·subst h1;rw[if_pos rfl,if_neg (fun h=>hrs h.symm),if_pos rfl]
    ·rw[if_neg h1,if_neg h1]
   rw[j' m _ s x y 1 1 hs,comm _ x,comm _ y,j' m _ r x y 1 1 hr,j' m _ r x y 1 1 hr,<-comm,<-comm,<-comm,<-comm]
   omega
  have z:∀x:Nat->Int,bZ m (bw (bw B r x) s x)=0:=fun x=>h0 _ fun c=>by
   rw[dj,eM _ _ hrs,dj]
  have:=add2 u v
  rw[z,z,z] at this
  omega
 have e:bZ m (bw (bw B r (B r)) s (B s))=bZ m B:=by
  refine jc m _ _ fun k c _ _=>?_
  unfold bw
  split
  ·subst_vars;rfl
  ·split
   ·subst_vars;rfl
   ·rfl
 have:=key (B s) (B r)
 rw[e] at this
 unfold BP
 omega
theorem xK {m:Nat}:∀(d r:Nat) (B:Cl),r+1+d<m->(∀c,B r c=B (r+1+d) c)->bZ m B=0
 |0,r,B,h,he=>sd m B r (by omega) he
 |d+1,r,B,h,he=>by
  have h1:=pK (m:=m) (B:=B) (r:=r+1+d) (s:=r+1+d+1) (by omega) (by omega) (by omega) fun C hC=>sd m C (r+1+d) (by omega) hC
  have h2:=xK (m:=m) d r (BP B (r+1+d) (r+1+d+1)) (by omega) fun c=>by
   unfold BP
   rw[eM _ _ (show r≠r+1+d+1 by omega),eM _ _ (show r≠r+1+d by omega),eM _ _ (show r+1+d≠r+1+d+1 by omega),dj,he]
   rfl
  omega
theorem si {m:Nat} {B:Cl} {r s:Nat} (hr:r<m) (hs:s<m) (hrs:r≠s) (he:∀c,B r c=B s c):bZ m B=0:=by
 by_cases h:r<s
 ·exact xK (s-r-1) r B (by omega) fun c=>by rw[he,show r+1+(s-r-1)=s by omega]
 ·exact xK (r-s-1) s B (by omega) fun c=>by rw[<-he,show s+1+(r-s-1)=r by omega]
theorem HJ {m:Nat} {B:Cl} {r s:Nat} (hr:r<m) (hs:s<m) (hrs:r≠s):bZ m (BP B r s)=-bZ m B:=
 pK hr hs hrs fun C hC=>si hr hs hrs hC
def uk:Cl:=fun i c=>if i=c then 1 else 0
theorem Df:∀m:Nat,bZ m uk=1
 |0=>rfl
 |m+1=>by
  rw[bZ,gI (r:=0) (by omega)]
  ·have e:xI 0 uk=uk:=by
    funext k c
    unfold xI uk
    rw[show(if k<0 then k else k+1)=k+1 from if_neg (by omega)]
    by_cases h:k=c
    ·rw[if_pos (by omega),if_pos h]
    ·rw[if_neg (by omega),if_neg h]
   rw[e,Df m]
   rfl
  ·intro i _ hi
   have:uk i 0=0:=by unfold uk;rw[if_neg hi]
   rw[this,Int.zero_mul,Int.mul_zero]
theorem xL {m:Nat} {B C:Cl} {r:Nat} (hr:r<m) (t:Nat->Int):∀n,bZ m (bw C r (fun c=>aC n fun k=>t k*B k c))=aC n fun k=>t k*bZ m (bw C r (B k))
 |0=>by
  have e:(fun c:Nat=>aC 0 fun k=>t k*B k c)=fun c=>0*B 0 c+0*B 0 c:=by funext c;simp[aC]
  rw[e,j' m C r (B 0) (B 0) 0 0 hr]
  simp[aC]
 |n+1=>by
  have e:(fun c:Nat=>aC (n+1) fun k=>t k*B k c)=fun c=>1*(aC n fun k=>t k*B k c)+t n*B n c:=by funext c;rw[aC];omega
  rw[e,j' m C r _ _ 1 (t n) hr,xL hr t n,aC]
  omega
structure Ap (m q:Nat) (b f:Cl) (c:Nat->Nat->Int) (d:Int):Prop where
 rel:∀j,j<q->∀l,l<m->d*f j l=aC m fun k=>(-c k j)*b k l
 det:d=bZ m b\/d=-bZ m b
 ne:d≠0
section
variable {m q:Nat} {b f:Cl} {c:Nat->Nat->Int} {d:Int}
theorem dv (n:Nat) (a:Int) (f:Nat->Int):a*aC n f=aC n fun i=>a*f i:=by
 induction n with
 |zero=>simp[aC]
 |succ n ih=>rw[aC,aC,Int.mul_add,ih]
theorem pL (n:Nat) (f g:Nat->Int):(aC n fun i=>f i+g i)=aC n f+aC n g:=by
 induction n with
 |zero=>rfl
 |succ n ih=>rw[aC,aC,aC,ih];omega
theorem zT (n:Nat) (f g:Nat->Int):(aC n fun i=>f i-g i)=aC n f-aC n g:=by
 induction n with
 |zero=>rfl
 |succ n ih=>rw[aC,aC,aC,ih];omega
theorem EU (n m:Nat) (f:Nat->Nat->Int):(aC n fun i=>aC m fun j=>f i j)=aC m fun j=>aC n fun i=>f i j:=by
 induction n with
 |zero=>rw[aC];exact(ge m _ fun _ _=>rfl).symm
 |succ n ih=>rw[aC,ih,<-pL];exact aU fun j _=>rfl
theorem Ap.put (h:Ap m q b f c d) (C:Cl) {i j:Nat} (hi:i<m) (hj:j<q):d*bZ m (bw C i (f j))=aC m fun k=>(-c k j)*bZ m (bw C i (b k)):=by
 rw[<-xL hi (fun k=>-c k j) m]
 have e:bZ m (bw C i (fun l=>aC m fun k=>(-c k j)*b k l))=bZ m (bw C i (fun l=>d*f j l+0*f j l)):=by
  refine jc m _ _ fun k l _ hl=>?_
  unfold bw
  split
  ·show(aC m fun k=>(-c k j)*b k l)=d*f j l+0*f j l
   rw[Int.zero_mul,Int.add_zero];exact(h.rel j hj l hl).symm
  ·rfl
 rw[e,j' m C i (f j) (f j) d 0 hi]
 omega
theorem Ap.swap (h:Ap m q b f c d) {i j:Nat} (hi:i<m) (hj:j<q):d*bZ m (bw b i (f j))=(-c i j)*bZ m b:=by
 rw[h.put b hi hj,gI (r:=i) hi]
 ·congr 1
  refine jc m _ _ fun k l _ _=>?_
  unfold bw
  split
  ·subst_vars;rfl
  ·rfl
 ·intro k hk hki
  rw[si (r:=i) (s:=k) hi hk (fun e=>hki e.symm) fun l=>by rw[dj,eM _ _ hki],Int.mul_zero]
theorem lE {a x y:Int} (h:a≠0) (e:a*x=a*y):x=y:=Int.eq_of_mul_eq_mul_left h e
theorem Ap.cell (h:Ap m q b f c d) {i j:Nat} (hi:i<m) (hj:j<q):(d=bZ m b->bZ m (bw b i (f j))=-c i j)/\(d=-bZ m b->bZ m (bw b i (f j))=c i j):=by
 have a:=h.swap hi hj
 refine⟨fun e=>?_,fun e=>?_⟩
 ·rw[<-e,Int.mul_comm (-c i j)] at a
  exact lE h.ne a
 ·have e2:bZ m b=-d:=by omega
  rw[e2,Int.mul_comm (-c i j),Int.neg_mul_neg] at a
  exact lE h.ne a
theorem Ap.exact (h:Ap m q b f c d) {r s i j:Nat} (hr:r<m) (hs:s<q) (hi:i<m) (hj:j<q) (hir:i≠r):∃e,c r s*c i j-c i s*c r j=d*e:=by
 have hC:d*bZ m (bw (bw b r (f s)) i (f j))=(-c i j)*bZ m (bw b r (f s))+(-c r j)*(-bZ m (bw b i (f s))):=by
  rw[h.put (bw b r (f s)) hi hj,zR (r:=i) (s:=r) hi hr hir]
  ·congr 2
   ·refine jc m _ _ fun k l _ _=>?_
    unfold bw
    split
    ·subst_vars;rw[if_neg hir]
    ·rfl
   ·have e:bZ m (bw (bw b r (f s)) i (b r))=bZ m (BP (bw b i (f s)) r i):=by
     refine jc m _ _ fun k l _ _=>?_
     unfold BP bw
     by_cases h1:k=i
     ·subst h1;rw[if_pos rfl,if_pos rfl,if_neg (fun e=>hir e.symm)]
     ·rw[if_neg h1,if_neg h1]
      by_cases h2:k=r
      ·subst h2;rw[if_pos rfl,if_pos rfl,if_pos rfl]
      ·rw[if_neg h2,if_neg h2,if_neg h1]
    rw[e,HJ hr hi (fun e=>hir e.symm)]
  ·intro k hk h1 h2
   rw[si (r:=i) (s:=k) hi hk (fun e=>h1 e.symm) fun l=>by rw[dj,eM _ _ h1,eM _ _ h2],Int.mul_zero]
 generalize bZ m (bw (bw b r (f s)) i (f j))=X at hC
 rcases h.det with e|e
 ·rw[(h.cell hr hs).1 e,(h.cell hi hs).1 e] at hC
  refine⟨X,?_⟩
  rw[hC,Int.neg_mul_neg,Int.neg_neg,Int.mul_comm (c i j),Int.neg_mul,Int.mul_comm (c r j)]
  omega
 ·rw[(h.cell hr hs).2 e,(h.cell hi hs).2 e] at hC
  refine⟨-X,?_⟩
  rw[Int.mul_neg,hC,Int.neg_mul_neg,Int.neg_mul,Int.mul_comm (c i j),Int.mul_comm (c r j)]
  omega
def ul (c e:Nat->Nat->Int) (d:Int) (r s:Nat):Nat->Nat->Int:=fun i j=>if i=r then(if j=s then d else-c r j) else if j=s then c i s else e i j
theorem Ap.pivot (h:Ap m q b f c d) {r s:Nat} (hr:r<m) (hs:s<q) (hp:c r s≠0) {e:Nat->Nat->Int} (he:∀i j,i<m->j<q->i≠r->j≠s->c r s*c i j-c i s*c r j=d*e i j):
  Ap m q (bw b r (f s)) (bw f s (b r)) (ul c e d r s) (c r s):=by
 have split:∀g:Nat->Int,aC m g=(aC m fun k=>if k=r then 0 else g k)+g r:=by
  intro g
  have e1:(aC m fun k=>if k=r then g k else 0)=g r:=by
   rw[gI (r:=r) hr fun i _ hi=>if_neg hi,if_pos rfl]
  rw[<-e1,<-pL]
  refine aU fun i _=>?_
  split<;>omega
 have rest:∀(g1 g2:Nat->Int),(∀k,k<m->k≠r->g1 k=g2 k)->(aC m fun k=>if k=r then 0 else g1 k)=aC m fun k=>if k=r then 0 else g2 k:=by
  intro g1 g2 hg
  refine aU fun k hk=>?_
  split
  ·rfl
  ·rename_i hkr;exact hg k hk hkr
 refine⟨fun j hj l hl=>?_,?_,hp⟩
 ·have hs':=h.rel s hs l hl
  rw[split] at hs'
  rw[split]
  by_cases hjs:j=s
  ·subst hjs
   rw[dj,dj]
   have e1:=rest (fun k=>-ul c e d r j k j*bw b r (f j) k l) (fun k=>-c k j*b k l) (fun k hk hkr=>by
    unfold ul;rw[if_neg hkr,if_pos rfl,eM _ _ hkr])
   rw[e1]
   have e2:ul c e d r j r j=d:=by unfold ul;rw[if_pos rfl,if_pos rfl]
   rw[e2]
   generalize (aC m fun k=>if k=r then 0 else-c k j*b k l)=A at hs'
   rw[Int.neg_mul] at hs'⊢
   omega
  ·rw[eM _ _ hjs,dj]
   have hj':=h.rel j hj l hl
   rw[split] at hj'
   have e2:ul c e d r s r j=-c r j:=by unfold ul;rw[if_pos rfl,if_neg hjs]
   rw[e2,Int.neg_neg]
   refine lE h.ne ?_
   have e1:d*(aC m fun k=>if k=r then 0 else-ul c e d r s k j*bw b r (f s) k l)=c r s*(aC m fun k=>if k=r then 0 else-c k j*b k l)-c r j*(aC m fun k=>if k=r then 0 else-c k s*b k l):=by
    rw[dv,dv,dv,<-zT]
    refine aU fun k hk=>?_
    by_cases hkr:k=r
    ·rw[if_pos hkr,if_pos hkr,if_pos hkr];simp
    ·rw[if_neg hkr,if_neg hkr,if_neg hkr]
     have:ul c e d r s k j=e k j:=by unfold ul;rw[if_neg hkr,if_neg hjs]
     rw[this,eM _ _ hkr]
     have hx:=he k j hk hj hkr hjs
     have e3:d*(-e k j*b k l)=-((d*e k j)*b k l):=by rw[Int.neg_mul,Int.mul_neg,Int.mul_assoc]
     rw[e3,<-hx,Int.sub_mul,Int.neg_mul,Int.mul_neg,Int.neg_mul,Int.mul_neg,Int.mul_assoc,Int.mul_assoc,Int.mul_left_comm (c k s),<-Int.mul_assoc (c r j)]
     rw[Int.mul_assoc (c r j)]
     omega
   rw[Int.mul_add,e1]
   generalize (aC m fun k=>if k=r then 0 else-c k j*b k l)=A at hj'⊢
   generalize (aC m fun k=>if k=r then 0 else-c k s*b k l)=B at hs'⊢
   have e4:d*(c r s*f j l)=c r s*(A+-c r j*b r l):=by rw[<-hj',Int.mul_left_comm]
   have e5:d*(c r j*f s l)=c r j*(B+-c r s*b r l):=by rw[<-hs',Int.mul_left_comm]
   rw[e4,e5,Int.mul_add,Int.mul_add,Int.neg_mul,Int.neg_mul,Int.mul_neg,Int.mul_neg,Int.mul_left_comm (c r s)]
   omega
 ·rcases h.det with e0|e0
  ·right;rw[(h.cell hr hs).1 e0];omega
  ·left;rw[(h.cell hr hs).2 e0]
theorem Ap.rows (h:Ap m q b f c d) {zb zf:Nat->Int} (hz:∀l,l<m->(aC m fun k=>zb k*b k l)+(aC q fun j=>zf j*f j l)=0):∀k,k<m->d*zb k=aC q fun j=>c k j*zf j:=by
 intro r hr
 let t:Nat->Int:=fun k=>d*zb k-aC q fun j=>c k j*zf j
 have h0:∀l,l<m->(aC m fun k=>t k*b k l)=0:=by
  intro l hl
  have e1:(aC m fun k=>t k*b k l)=d*(aC m fun k=>zb k*b k l)-aC m fun k=>aC q fun j=>c k j*zf j*b k l:=by
   rw[dv,<-zT]
   refine aU fun k _=>?_
   show(d*zb k-aC q fun j=>c k j*zf j)*b k l=_
   rw[Int.sub_mul,Int.mul_assoc,Int.mul_comm (aC q _),dv]
   congr 1
   exact aU fun j _=>Int.mul_comm _ _
  have e2:d*(aC q fun j=>zf j*f j l)=-aC m fun k=>aC q fun j=>c k j*zf j*b k l:=by
   rw[EU,dv]
   have:(-aC q fun j=>aC m fun k=>c k j*zf j*b k l)=aC q fun j=>-aC m fun k=>c k j*zf j*b k l:=by
    have:=dv q (-1) (fun j=>aC m fun k=>c k j*zf j*b k l)
    rw[Int.neg_mul,Int.one_mul] at this
    rw[this]
    exact aU fun j _=>by rw[Int.neg_mul,Int.one_mul]
   rw[this]
   refine aU fun j hj=>?_
   rw[Int.mul_left_comm,h.rel j hj l hl,dv]
   have:=dv m (-1) (fun k=>c k j*zf j*b k l)
   rw[Int.neg_mul,Int.one_mul] at this
   rw[this]
   refine aU fun k _=>?_
   show zf j*(-c k j*b k l)=-1*(c k j*zf j*b k l)
   rw[Int.neg_mul,Int.neg_mul,Int.one_mul,Int.mul_neg,Int.mul_left_comm,Int.mul_assoc]
  have e3:(aC m fun k=>zb k*b k l)=-aC q fun j=>zf j*f j l:=by have:=hz l hl;omega
  rw[e1,e3,Int.mul_neg,e2]
  omega
 have e:bZ m (bw b r (fun l=>aC m fun k=>t k*b k l))=t r*bZ m b:=by
  rw[xL hr t m,gI (r:=r) hr]
  ·congr 1
   refine jc m _ _ fun k l _ _=>?_
   unfold bw
   split
   ·subst_vars;rfl
   ·rfl
  ·intro k hk hkr
   rw[si (r:=r) (s:=k) hr hk (fun e=>hkr e.symm) fun l=>by rw[dj,eM _ _ hkr],Int.mul_zero]
 have e':bZ m (bw b r (fun l=>aC m fun k=>t k*b k l))=0:=by
  have:bZ m (bw b r (fun l=>aC m fun k=>t k*b k l))=bZ m (bw b r (fun l=>0*b r l+0*b r l)):=by
   refine jc m _ _ fun k l _ hl=>?_
   unfold bw
   split
   ·show(aC m fun k=>t k*b k l)=0*b r l+0*b r l
    rw[h0 l hl];simp
   ·rfl
  rw[this,j' m b r _ _ 0 0 hr]
  simp
 have hn:bZ m b≠0:=by have:=h.ne;rcases h.det with e|e<;>omega
 have:t r=0:=by
  rw[e'] at e
  rcases Int.mul_eq_zero.1 e.symm with h1|h1
  ·exact h1
  ·exact absurd h1 hn
 show d*zb r=_
 have:d*zb r-(aC q fun j=>c r j*zf j)=0:=this
 omega
theorem Ap.point (h:Ap m q b f c d) (hq:0<q) {zb:Nat->Int} (hz:∀k,k<m->d*zb k=c k 0):∀l,l<m->(aC m fun k=>zb k*b k l)+f 0 l=0:=by
 intro l hl
 refine lE h.ne ?_
 rw[Int.mul_add,h.rel 0 hq l hl,dv,<-pL,Int.mul_zero]
 refine ge m _ fun k hk=>?_
 rw[<-hz k hk,Int.neg_mul,Int.mul_assoc]
 omega
end
end
section
set_option maxRecDepth 100000
set_option maxHeartbeats 8000000
structure cz where
 den:Int
 bas:List Int
 fre:List Int
 cel:List (List Int)
def cl (t:cz) (i j:Nat):Int:=(t.cel.getD i []).getD j 0
def cM (n:Int):Prop:=-1073741824<=n/\n<=1073741824
instance (n:Int):Decidable (cM n):=inferInstanceAs (Decidable (_/\_))
def kH (r:aV):List Int:=r.const::r.coef
def zU (rows:List aV):Prop:=∀i,i<rows.length->∀j,j<(kH (rows.getD i ar)).length->cM ((kH (rows.getD i ar)).getD j 0)
instance (rows:List aV):Decidable (zU rows):=inferInstanceAs (Decidable (∀i,i<rows.length->_))
def eP (n:Nat) (rows:List aV):cz:=⟨1,(List.range rows.length).map fun i:Nat=>((n:Int)+(i:Int)),(List.range n).map fun j:Nat=>(j:Int),rows.map kH⟩
def jm (t:cz):Nat->Int
 |0=>-1
 |k+1=>if cl t k 0<0/\(jm t k<0\/t.bas.getD k 0<t.bas.getD (jm t k).toNat 0) then(k:Int) else jm t k
def p5 (t:cz) (r:Nat):Nat->Int
 |0=>-1
 |k+1=>if 0<cl t r (k+1)/\(p5 t r k<0\/t.fre.getD k 0<t.fre.getD (p5 t r k).toNat 0) then(k:Int) else p5 t r k
def l4 (t:cz) (r s i j:Nat):Int:=if j=s+1 then cl t i (s+1) else(cl t r (s+1)*cl t i j-cl t i (s+1)*cl t r j).tdiv t.den
def Fi (m n:Nat) (t:cz) (r s:Nat):Prop:=∀i,i<m->i≠r->∀j,j<n+1->cM (l4 t r s i j)
instance (m n:Nat) (t:cz) (r s:Nat):Decidable (Fi m n t r s):=inferInstanceAs (Decidable (∀i,i<m->_))
def sj (m n:Nat) (t:cz) (r s:Nat):cz:=
 ⟨cl t r (s+1),t.bas.set r (t.fre.getD s 0),t.fre.set s (t.bas.getD r 0),
  (List.range m).map fun i=>(List.range (n+1)).map fun j=>if i=r then(if j=s+1 then t.den else-cl t r j) else l4 t r s i j⟩
def EV (m n:Nat):Nat->cz->Option (cz×Int)
 |0,_=>none
 |k+1,t=>
  if jm t m<0 then some (t,-1)
  else if p5 t (jm t m).toNat n<0 then some (t,jm t m)
  else if Fi m n t (jm t m).toNat (p5 t (jm t m).toNat n).toNat then EV m n k (sj m n t (jm t m).toNat (p5 t (jm t m).toNat n).toNat)
  else none
def jM (n:Nat) (rows:List aV) (z:Int):Nat->Int:=fun l=>if z<n then-(rows.getD l ar).coef.getD z.toNat 0 else if z=(n:Int)+(l:Int) then 1 else 0
def uS (n:Nat) (rows:List aV) (t:cz):Cl:=fun j=>match j with
 |0=>fun l=>-(rows.getD l ar).const
 |j+1=>jM n rows (t.fre.getD j 0)
def rI (n:Nat) (rows:List aV) (t:cz):Cl:=fun k=>jM n rows (t.bas.getD k 0)
structure fa (m n:Nat) (rows:List aV) (t:cz):Prop where
 rl:rows.length=m
 bl:t.bas.length=m
 fl:t.fre.length=n
 cm:t.cel.length=m
 cn:∀i,i<m->(t.cel.getD i []).length=n+1
 dp:0<t.den/\t.den<=1073741824
 cb:∀i j,i<m->j<n+1->cM (cl t i j)
 pm:(t.bas++t.fre).Perm ((List.range (n+m)).map fun z:Nat=>(z:Int))
 tb:Ap m (n+1) (rI n rows t) (uS n rows t) (cl t) t.den
theorem K3 {m n:Nat} {f:Nat->Nat->Int} {d:Int} {a b:List Int} {i j:Nat} (hi:i<m) (hj:j<n):cl ⟨d,a,b,(List.range m).map fun i=>(List.range n).map fun j=>f i j⟩ i j=f i j:=by
 unfold cl
 simp[gD,hi,hj]
theorem sk (t:cz):∀k,-1<=jm t k/\jm t k<k
 |0=>by simp[jm]
 |k+1=>by
  have:=sk t k
  rw[jm];split<;>omega
theorem Dg (t:cz):∀k,0<=jm t k->cl t (jm t k).toNat 0<0
 |0,h=>by simp[jm] at h
 |k+1,h=>by
  rw[jm] at h⊢
  split
  ·rename_i hc;rw[tN];exact hc.1
  ·rename_i hc;rw[if_neg hc] at h;exact Dg t k h
theorem zV (t:cz):∀k,jm t k<0->∀i,i<k->0<=cl t i 0
 |0,_,i,hi=>by omega
 |k+1,h,i,hi=>by
  rw[jm] at h
  split at h
  ·omega
  ·rename_i hc
   by_cases e:i=k
   ·subst e;exact Int.not_lt.1 fun h1=>hc ⟨h1, .inl h⟩
   ·exact zV t k h i (by omega)
theorem sm (t:cz) (r:Nat):∀k,-1<=p5 t r k/\p5 t r k<k
 |0=>by simp[p5]
 |k+1=>by
  have:=sm t r k
  rw[p5];split<;>omega
theorem xM (t:cz) (r:Nat):∀k,0<=p5 t r k->0<cl t r ((p5 t r k).toNat+1)
 |0,h=>by simp[p5] at h
 |k+1,h=>by
  rw[p5] at h⊢
  split
  ·rename_i hc;rw[tN];exact hc.1
  ·rename_i hc;rw[if_neg hc] at h;exact xM t r k h
theorem zW (t:cz) (r:Nat):∀k,p5 t r k<0->∀j,j<k->cl t r (j+1)<=0
 |0,_,i,hi=>by omega
 |k+1,h,i,hi=>by
  rw[p5] at h
  split at h
  ·omega
  ·rename_i hc
   by_cases e:i=k
   ·subst e;exact Int.not_lt.1 fun h1=>hc ⟨h1, .inl h⟩
   ·exact zW t r k h i (by omega)
theorem BQ {n:Nat} {rows:List aV} (hw:∀i,i<rows.length->(rows.getD i ar).coef.length=n) (hb:zU rows):fa rows.length n rows (eP n rows):=by
 have hcel:∀i,i<rows.length->(eP n rows).cel.getD i []=kH (rows.getD i ar):=by
  intro i hi
  unfold eP
  dsimp only
  rw[ap [] (by simpa using hi),List.getElem_map,ap ar hi]
 have hbas:∀i,i<rows.length->(eP n rows).bas.getD i 0=(n:Int)+(i:Int):=by
  intro i hi
  unfold eP
  dsimp only
  rw[ap 0 (by simpa using hi),List.getElem_map,List.getElem_range]
 have hfre:∀j,j<n->(eP n rows).fre.getD j 0=(j:Int):=by
  intro j hj
  unfold eP
  dsimp only
  rw[ap 0 (by simpa using hj),List.getElem_map,List.getElem_range]
 refine⟨rfl,by simp[eP],by simp[eP],by simp[eP],fun i hi=>?_,by simp[eP],fun i j hi hj=>?_,?_,?_⟩
 ·rw[hcel i hi,kH,List.length_cons,hw i hi]
 ·unfold cl
  rw[hcel i hi]
  exact hb i hi j (by rw[kH,List.length_cons,hw i hi];omega)
 ·have e:(List.range (n+rows.length)).map (fun z:Nat=>(z:Int))=(eP n rows).fre++(eP n rows).bas:=by
   unfold eP
   dsimp only
   rw[List.range_add,List.map_append,List.map_map]
   congr 1
  rw[e]
  exact List.perm_append_comm
 ·have hcol:∀k,k<rows.length->∀l,l<rows.length->rI n rows (eP n rows) k l=uk k l:=by
   intro k hk l hl
   unfold rI jM uk
   rw[hbas k hk,if_neg (by omega)]
   by_cases e:k=l
   ·rw[if_pos (by omega),if_pos e]
   ·rw[if_neg (by omega),if_neg e]
  refine⟨fun j hj l hl=>?_, .inl ?_,by simp[eP]⟩
  ·rw[gI (r:=l) hl]
   ·rw[hcol l hl l hl]
    unfold uk cl
    rw[hcel l hl,if_pos rfl]
    show(1:Int)*_=_
    cases j with
    |zero=>simp[uS,kH]
    |succ j=>
     have:uS n rows (eP n rows) (j+1) l=-(rows.getD l ar).coef.getD j 0:=by
      show jM n rows _ l=_
      rw[hfre j (by omega)]
      unfold jM
      rw[if_pos (by omega),tN]
     rw[this]
     simp[kH]
   ·intro i hi hne
    rw[hcol i hi l hl]
    unfold uk
    rw[if_neg hne,Int.mul_zero]
  ·show(1:Int)=_
   rw[jc _ _ uk fun k c hk hc=>hcol k hk c hc,Df]
theorem EW {a b:List Int} {r s:Nat} (hr:r<a.length) (hs:s<b.length):(a.set r (b.getD s 0)++b.set s (a.getD r 0)).Perm (a++b):=by
 have e:a.set r (b.getD s 0)++b.set s (a.getD r 0)=((a++b).set r (b.getD s 0)).set (a.length+s) (a.getD r 0):=by
  rw[List.set_append_left _ _ hr,List.set_append_right _ _ (by simp),List.length_set,Nat.add_sub_cancel_left]
 have h1:(a++b)[r]'(by simp;omega)=a.getD r 0:=by rw[List.getElem_append_left hr,ap 0 hr]
 have h2:(a++b)[a.length+s]'(by simp;omega)=b.getD s 0:=by
  rw[List.getElem_append_right (by omega),ap 0 hs]
  congr 1;omega
 rw[e,<-h1,<-h2]
 exact List.set_set_perm (by simp;omega) (by simp;omega)
theorem MV {m n:Nat} {rows:List aV} {t:cz} (h:fa m n rows t) {r s:Nat} (hr:r<m) (hs:s<n) (hp:0<cl t r (s+1)) (hb:Fi m n t r s):fa m n rows (sj m n t r s):=by
 have hcl:∀i j,i<m->j<n+1->cl (sj m n t r s) i j=if i=r then(if j=s+1 then t.den else-cl t r j) else l4 t r s i j:=fun i j hi hj=>K3 hi hj
 have hcr:=h.cb r (s+1) hr (by omega)
 refine⟨h.rl,by simp[sj,h.bl],by simp[sj,h.fl],by simp[sj],fun i hi=>?_,⟨hp,hcr.2⟩,fun i j hi hj=>?_,?_,?_⟩
 ·unfold sj
  dsimp only
  rw[ap [] (by simpa using hi),List.getElem_map]
  simp
 ·rw[hcl i j hi hj]
  split
  ·split
   ·have:=h.dp;unfold cM;omega
   ·have:=h.cb r j hr hj;unfold cM at*;omega
  ·rename_i hne
   exact hb i hi hne j hj
 ·exact(EW (by rw[h.bl];exact hr) (by rw[h.fl];exact hs)).trans h.pm
 ·have hex:∀i j,i<m->j<n+1->i≠r->j≠s+1->cl t r (s+1)*cl t i j-cl t i (s+1)*cl t r j=t.den*l4 t r s i j:=by
   intro i j hi hj h1 h2
   obtain⟨e,he⟩:=h.tb.exact hr (show s+1<n+1 by omega) hi hj h1
   unfold l4
   rw[if_neg h2,he,Int.mul_tdiv_cancel_left _ (by have:=h.dp;omega)]
  have:=h.tb.pivot hr (show s+1<n+1 by omega) (by omega) hex
  have eB:bw (rI n rows t) r (uS n rows t (s+1))=rI n rows (sj m n t r s):=by
   funext k l
   unfold bw rI sj
   dsimp only
   by_cases e:k=r
   ·subst e
    rw[if_pos rfl]
    have:(t.bas.set k (t.fre.getD s 0)).getD k 0=t.fre.getD s 0:=by
     rw[gD,List.getElem?_set_self (by rw[h.bl];exact hr)];rfl
    rw[this]
    rfl
   ·rw[if_neg e]
    have:(t.bas.set r (t.fre.getD s 0)).getD k 0=t.bas.getD k 0:=by
     rw[gD,List.getElem?_set_ne (fun h=>e h.symm),<-gD]
    rw[this]
  have eF:bw (uS n rows t) (s+1) (rI n rows t r)=uS n rows (sj m n t r s):=by
   funext k l
   unfold bw
   by_cases e:k=s+1
   ·subst e
    rw[if_pos rfl]
    show jM n rows (t.bas.getD r 0) l=jM n rows ((t.fre.set s (t.bas.getD r 0)).getD s 0) l
    have:(t.fre.set s (t.bas.getD r 0)).getD s 0=t.bas.getD r 0:=by
     rw[gD,List.getElem?_set_self (by rw[h.fl];exact hs)];rfl
    rw[this]
   ·rw[if_neg e]
    cases k with
    |zero=>rfl
    |succ k=>
     show jM n rows (t.fre.getD k 0) l=jM n rows ((t.fre.set s (t.bas.getD r 0)).getD k 0) l
     have:(t.fre.set s (t.bas.getD r 0)).getD k 0=t.fre.getD k 0:=by
      rw[gD,List.getElem?_set_ne (by omega),<-gD]
     rw[this]
  rw[eB,eF] at this
  refine⟨fun j hj l hl=>?_,this.det,this.ne⟩
  have e:=this.rel j hj l hl
  show cl t r (s+1)*_=_
  rw[e]
  refine aU fun k hk=>?_
  rw[hcl k j hk hj]
  unfold ul
  congr 2
  split
  ·rfl
  ·unfold l4
   split
   ·subst_vars;rfl
   ·rfl
theorem Dh {m n:Nat} {rows:List aV}:∀(k:Nat) {t t':cz} {b:Int},fa m n rows t->EV m n k t=some (t',b)->
  fa m n rows t'/\((b=-1/\∀i,i<m->0<=cl t' i 0)\/((0<=b/\b<m)/\cl t' b.toNat 0<0/\∀j,j<n->cl t' b.toNat (j+1)<=0))
 |0,_,_,_,_,h=>by cases h
 |k+1,t,t',b,h,e=>by
  rw[EV] at e
  have h1:=sk t m
  split at e
  ·rename_i hl
   cases e
   exact⟨h, .inl ⟨rfl,fun i hi=>zV t m hl i hi⟩⟩
  ·rename_i hl
   have h2:=sm t (jm t m).toNat n
   split at e
   ·rename_i he
    cases e
    exact⟨h, .inr ⟨⟨by omega,by omega⟩,Dg t m (by omega),fun j hj=>zW t _ n he j hj⟩⟩
   ·rename_i he
    split at e
    ·rename_i hb
     exact Dh k (MV h (by omega) (by omega) (xM t _ n (by omega)) hb) e
    ·cases e
def km (f:Int->Int):List Int->Int
 |[]=>0
 |a::l=>f a+km f l
theorem um (f:Int->Int) (l m:List Int):km f (l++m)=km f l+km f m:=by
 induction l with
 |nil=>simp[km]
 |cons a l ih=>rw[List.cons_append,km,km,ih];omega
theorem EX {f:Int->Int} {l m:List Int} (h:l.Perm m):km f l=km f m:=by
 induction h with
 |nil=>rfl
 |cons a _ ih=>rw[km,km,ih]
 |swap a b l=>rw[km,km,km,km];omega
 |trans _ _ h1 h2=>rw[h1,h2]
theorem wa (f:Int->Int) (l:List Int):aC l.length (fun k=>f (l.getD k 0))=km f l:=by
 have key:∀n,n<=l.length->aC n (fun k=>f (l.getD k 0))=km f (l.take n):=by
  intro n
  induction n with
  |zero=>intro _;rfl
  |succ n ih=>
   intro h
   rw[aC,ih (by omega),KO 0 (by omega),um,km,km]
   omega
 rw[key _ (Nat.le_refl _),List.take_length]
theorem BR (f:Int->Int) (n:Nat):km f ((List.range n).map fun z:Nat=>(z:Int))=aC n fun z=>f (z:Int):=by
 induction n with
 |zero=>rfl
 |succ n ih=>rw[List.range_succ,List.map_append,um,ih,aC];simp[km]
theorem ow (n m:Nat) (f:Nat->Int):aC (n+m) f=aC n f+aC m fun i=>f (n+i):=by
 induction m with
 |zero=>simp[aC]
 |succ m ih=>rw[<-Nat.add_assoc,aC,ih,aC];omega
theorem pM (c x:List Int) (n:Nat):gO c x n=aC n fun k=>c.getD k 0*x.getD k 0:=by
 induction n with
 |zero=>rfl
 |succ n ih=>rw[gO,aC,ih]
section
variable {m n:Nat} {rows:List aV} {t:cz}
theorem Di (h:fa m n rows t) (Z:Int->Int) {l:Nat} (hl:l<m):
  (aC m fun k=>Z (t.bas.getD k 0)*jM n rows (t.bas.getD k 0) l)+(aC n fun j=>Z (t.fre.getD j 0)*jM n rows (t.fre.getD j 0) l)=Z ((n:Int)+(l:Int))-aC n fun x=>(rows.getD l ar).coef.getD x 0*Z (x:Int):=by
 have e1:=wa (fun z=>Z z*jM n rows z l) t.bas
 have e2:=wa (fun z=>Z z*jM n rows z l) t.fre
 rw[h.bl] at e1
 rw[h.fl] at e2
 rw[e1,e2,<-um,EX h.pm,BR,ow]
 have a1:(aC n fun z=>Z (z:Int)*jM n rows (z:Int) l)=-aC n fun x=>(rows.getD l ar).coef.getD x 0*Z (x:Int):=by
  have:=dv n (-1) (fun x=>(rows.getD l ar).coef.getD x 0*Z (x:Int))
  rw[Int.neg_mul,Int.one_mul] at this
  rw[this]
  refine aU fun x hx=>?_
  unfold jM
  rw[if_pos (by omega),tN,Int.mul_neg,Int.neg_mul,Int.one_mul,Int.mul_comm]
 have a2:(aC m fun i=>Z ((n+i:Nat):Int)*jM n rows ((n+i:Nat):Int) l)=Z ((n:Int)+(l:Int)):=by
  rw[gI (r:=l) hl]
  ·unfold jM
   rw[if_neg (by omega),if_pos (by omega),Int.mul_one]
   congr 1
  ·intro i _ hne
   unfold jM
   rw[if_neg (by omega),if_neg (by omega),Int.mul_zero]
 rw[a1,a2]
 omega
def zK (t:cz) (z:Int):Nat->Int
 |0=>0
 |k+1=>if t.bas.getD k 0=z then cl t k 0 else zK t z k
def lX (n:Nat) (t:cz):Nat->List Int
 |0=>List.replicate n 0
 |k+1=>if t.bas.getD k 0<n then(lX n t k).set (t.bas.getD k 0).toNat ((cl t k 0).tdiv t.den) else lX n t k
theorem ka (n:Nat) (t:cz):∀k,(lX n t k).length=n
 |0=>by simp[lX]
 |k+1=>by rw[lX];split<;>simp[ka n t k]
theorem wb (h:fa m n rows t):(t.bas++t.fre).Nodup:=by
 refine h.pm.nodup_iff.2 ?_
 rw[List.nodup_iff_pairwise_ne]
 refine List.pairwise_map.2 ?_
 exact(List.nodup_iff_pairwise_ne.1 List.nodup_range).imp fun hab e=>hab (by omega)
theorem pN (h:fa m n rows t):∀z∈t.bas++t.fre,0<=z/\z<(n+m:Nat):=by
 intro z hz
 obtain⟨w,hw,rfl⟩:=List.mem_map.1 (h.pm.mem_iff.1 hz)
 have:=List.mem_range.1 hw
 omega
theorem Dj (h:fa m n rows t) {j:Nat} (hj:j<n):∀k,k<=m->zK t (t.fre.getD j 0) k=0
 |0,_=>rfl
 |k+1,hk=>by
  rw[zK,if_neg,Dj h hj k (by omega)]
  intro e
  have hn:=(List.nodup_append.1 (wb h)).2.2
  exact hn _ (qm (l:=t.bas) 0 (by rw[h.bl];omega)) _ (qm (l:=t.fre) 0 (by rw[h.fl];exact hj)) e
theorem HK (h:fa m n rows t) {i:Nat} (hi:i<m):∀k,i<k->k<=m->zK t (t.bas.getD i 0) k=cl t i 0
 |0,h0,_=>by omega
 |k+1,h0,hk=>by
  rw[zK]
  by_cases e:t.bas.getD k 0=t.bas.getD i 0
  ·rw[if_pos e]
   have hn:=(List.nodup_append.1 (wb h)).1
   have hb:=h.bl
   rw[ap 0 (by omega),ap 0 (by omega)] at e
   rw[(List.getElem_inj hn).1 e]
  ·rw[if_neg e]
   by_cases e2:i=k
   ·subst e2;exact absurd rfl e
   ·exact HK h hi k (by omega) (by omega)
theorem wd (h0:∀i,i<m->0<=cl t i 0) (z:Int):∀k,k<=m->0<=zK t z k
 |0,_=>by simp[zK]
 |k+1,hk=>by
  rw[zK]
  split
  ·exact h0 k (by omega)
  ·exact wd h0 z k (by omega)
theorem Dk (hb:∀k,k<m->0<=t.bas.getD k 0) (z:Nat) (hz:z<n):∀k,k<=m->(lX n t k).getD z 0=(zK t (z:Int) k).tdiv t.den
 |0,_=>by
  rw[lX,zK,Int.zero_tdiv,gD,List.getElem?_replicate]
  split<;>rfl
 |k+1,hk=>by
  have ih:=Dk hb z hz k (by omega)
  have h0:=hb k (by omega)
  rw[lX,zK]
  by_cases e:t.bas.getD k 0=z
  ·rw[if_pos (by omega),if_pos e]
   have:(t.bas.getD k 0).toNat=z:=by omega
   rw[this,gD,List.getElem?_set_self (by rw[ka];exact hz)]
   rfl
  ·rw[if_neg e]
   split
   ·rw[gD,List.getElem?_set_ne (by omega),<-gD,ih]
   ·exact ih
theorem MW (h:fa m n rows t) (hw:∀i,i<m->(rows.getD i ar).coef.length=n) (h0:∀i,i<m->0<=cl t i 0) (hd:∀i,i<m->t.bas.getD i 0<n->(cl t i 0).tmod t.den=0):∀l,l<m->0<=rG (rows.getD l ar) (lX n t m):=by
 intro l hl
 have hb:∀k,k<m->0<=t.bas.getD k 0:=fun k hk=>(pN h _ (List.mem_append_left _ (qm (l:=t.bas) 0 (by rw[h.bl];exact hk)))).1
 have hrel:=h.tb.rel 0 (by omega) l hl
 have hs:=Di h (fun z=>zK t z m) hl
 have e1:(aC n fun j=>zK t (t.fre.getD j 0) m*jM n rows (t.fre.getD j 0) l)=0:=ge n _ fun j hj=>by rw[Dj h hj m (Nat.le_refl _),Int.zero_mul]
 have e2:(aC m fun k=>zK t (t.bas.getD k 0) m*jM n rows (t.bas.getD k 0) l)=aC m fun k=>cl t k 0*rI n rows t k l:=aU fun k hk=>by rw[HK h hk m hk (Nat.le_refl _)];rfl
 have e3:t.den*(rows.getD l ar).const=aC m fun k=>cl t k 0*rI n rows t k l:=by
  have:=dv m (-1) (fun k=>cl t k 0*rI n rows t k l)
  have e:(aC m fun k=>-1*(cl t k 0*rI n rows t k l))=aC m fun k=>-cl t k 0*rI n rows t k l:=aU fun k _=>by rw[Int.neg_mul,Int.neg_mul,Int.one_mul]
  rw[e,<-hrel] at this
  have e0:uS n rows t 0 l=-(rows.getD l ar).const:=rfl
  rw[e0,Int.mul_neg] at this
  omega
 rw[e1,e2,<-e3] at hs
 have hdiv:∀z:Nat,z<n->zK t (z:Int) m=t.den*(lX n t m).getD z 0:=by
  intro z hz
  rw[Dk hb z hz m (Nat.le_refl _)]
  have key:∀k,k<=m->(zK t (z:Int) k).tmod t.den=0:=by
   intro k
   induction k with
   |zero=>intro _;simp[zK]
   |succ k ih=>
    intro hk
    rw[zK]
    split
    ·rename_i e;exact hd k (by omega) (by omega)
    ·exact ih (by omega)
  have:=Int.mul_tdiv_add_tmod (zK t (z:Int) m) t.den
  rw[key m (Nat.le_refl _)] at this
  omega
 have e4:(aC n fun x=>(rows.getD l ar).coef.getD x 0*zK t (x:Int) m)=t.den*gO (rows.getD l ar).coef (lX n t m) n:=by
  rw[pM,dv]
  refine aU fun x hx=>?_
  rw[hdiv x hx,Int.mul_left_comm]
 rw[e4] at hs
 have hz:=wd h0 ((n:Int)+(l:Int)) m (Nat.le_refl _)
 unfold rG
 rw[hw l hl]
 have e5:t.den*((rows.getD l ar).const+gO (rows.getD l ar).coef (lX n t m) n)=zK t ((n:Int)+(l:Int)) m:=by rw[Int.mul_add];omega
 refine Classical.byContradiction fun hneg=>?_
 have:=Int.mul_neg_of_pos_of_neg h.dp.1 (show(rows.getD l ar).const+gO (rows.getD l ar).coef (lX n t m) n<0 by omega)
 omega
def lG (n:Nat) (rows:List aV) (x:List Int) (z:Int):Int:=if z<n then x.getD z.toNat 0 else rG (rows.getD (z-n).toNat ar) x
theorem Ke (h:fa m n rows t) (hw:∀i,i<m->(rows.getD i ar).coef.length=n) (x:List Int) {r:Nat} (hr:r<m):
  t.den*lG n rows x (t.bas.getD r 0)=cl t r 0+aC n fun j=>cl t r (j+1)*lG n rows x (t.fre.getD j 0):=by
 have key:=h.tb.rows (zb:=fun k=>lG n rows x (t.bas.getD k 0)) (zf:=fun j=>match j with|0=>1|j+1=>lG n rows x (t.fre.getD j 0)) (fun l hl=>by
  have hs:=Di h (lG n rows x) hl
  have e1:(aC (n+1) fun j=>(match j with|0=>1|j+1=>lG n rows x (t.fre.getD j 0))*uS n rows t j l)=-(rows.getD l ar).const+aC n fun j=>lG n rows x (t.fre.getD j 0)*jM n rows (t.fre.getD j 0) l:=by
   rw[Nat.add_comm,ow]
   have a:(aC 1 fun j=>(match j with|0=>1|j+1=>lG n rows x (t.fre.getD j 0))*uS n rows t j l)=-(rows.getD l ar).const:=by
    show 0+1*uS n rows t 0 l=_
    rw[Int.zero_add,Int.one_mul];rfl
   rw[a]
   congr 1
   refine aU fun j _=>?_
   rw[Nat.add_comm]
   rfl
  rw[e1]
  have e2:(aC n fun i=>(rows.getD l ar).coef.getD i 0*lG n rows x (i:Int))=gO (rows.getD l ar).coef x n:=by
   rw[pM]
   refine aU fun i hi=>?_
   unfold lG
   rw[if_pos (by omega),tN]
  have e3:lG n rows x ((n:Int)+(l:Int))=(rows.getD l ar).const+gO (rows.getD l ar).coef x n:=by
   unfold lG
   rw[if_neg (by omega),show((n:Int)+(l:Int)-n).toNat=l by omega]
   unfold rG
   rw[hw l hl]
  rw[e2,e3] at hs
  show(aC m fun k=>lG n rows x (t.bas.getD k 0)*jM n rows (t.bas.getD k 0) l)+_=0
  omega) r hr
 rw[key,Nat.add_comm n 1,ow]
 congr 1
 ·show 0+cl t r 0*1=_
  omega
 ·refine aU fun j _=>?_
  rw[Nat.add_comm]
def HL (n:Nat) (t:cz) (r:Nat):Int×Int:=if t.bas.getD r 0<n then(-1-t.bas.getD r 0,t.den) else(t.bas.getD r 0-n,t.den)
def de (n:Nat) (t:cz) (r:Nat):Nat->List (Int×Int)
 |0=>[HL n t r]
 |k+1=>if(n:Int)<=t.fre.getD k 0/\0< -cl t r (k+1) then de n t r k++[(t.fre.getD k 0-n,-cl t r (k+1))] else de n t r k
def xN (n:Nat) (rows:List aV) (x:List Int) (a:Int×Int):Int:=a.2*if a.1<0 then x.getD (-1-a.1).toNat 0 else rG (rows.getD a.1.toNat ar) x
def lY (n:Nat) (rows:List aV) (x:List Int):List (Int×Int)->Int
 |[]=>0
 |a::l=>xN n rows x a+lY n rows x l
theorem zX (x:List Int) (l k:List (Int×Int)):lY n rows x (l++k)=lY n rows x l+lY n rows x k:=by
 induction l with
 |nil=>simp[lY]
 |cons a l ih=>rw[List.cons_append,lY,lY,ih];omega
theorem MY (h:fa m n rows t) (hw:∀i,i<m->(rows.getD i ar).coef.length=n) (x:List Int) {r:Nat} (hr:r<m) (hneg:∀j,j<n->cl t r (j+1)<=0):
  lY n rows x (de n t r n)=cl t r 0+aC n fun j=>if t.fre.getD j 0<n then cl t r (j+1)*x.getD (t.fre.getD j 0).toNat 0 else 0:=by
 have hrow:=Ke h hw x hr
 have hb:=pN h _ (List.mem_append_left _ (qm (l:=t.bas) 0 (by rw[h.bl];exact hr)))
 have hA:lY n rows x [HL n t r]=t.den*lG n rows x (t.bas.getD r 0):=by
  unfold HL
  rw[lY,lY,Int.add_zero]
  unfold lG
  split
  ·unfold xN
   dsimp only
   rw[if_pos (by omega),show(-1-(-1-t.bas.getD r 0)).toNat=(t.bas.getD r 0).toNat by omega]
  ·unfold xN
   dsimp only
   rw[if_neg (by omega)]
 have key:∀k,k<=n->lY n rows x (de n t r k)=t.den*lG n rows x (t.bas.getD r 0)+aC k fun j=>if(n:Int)<=t.fre.getD j 0 then-(cl t r (j+1)*lG n rows x (t.fre.getD j 0)) else 0:=by
  intro k
  induction k with
  |zero=>intro _;rw[de,hA,aC];omega
  |succ k ih=>
   intro hk
   rw[de,aC]
   have hk0:=hneg k (by omega)
   by_cases h1:(n:Int)<=t.fre.getD k 0
   ·rw[if_pos h1]
    by_cases h2:0< -cl t r (k+1)
    ·rw[if_pos ⟨h1,h2⟩,zX,ih (by omega),lY,lY]
     unfold xN lG
     dsimp only
     rw[if_neg (show¬t.fre.getD k 0<n by omega),if_neg (show¬t.fre.getD k 0-n<0 by omega),Int.neg_mul]
     omega
    ·rw[if_neg (fun h=>h2 h.2),ih (by omega)]
     have:cl t r (k+1)=0:=by omega
     rw[this,Int.zero_mul]
     omega
   ·rw[if_neg (fun h=>h1 h.1),if_neg h1,ih (by omega)]
    omega
 rw[key n (Nat.le_refl _),hrow,Int.add_assoc,<-pL]
 congr 1
 refine aU fun j _=>?_
 by_cases h1:t.fre.getD j 0<n
 ·rw[if_neg (by omega),if_pos h1]
  unfold lG
  rw[if_pos h1]
  omega
 ·rw[if_pos (by omega),if_neg h1]
  omega
theorem HM {x:List Int} {d:kR} (hx:kC n rows):∀i,(∀k,k<i->mP n rows.length d k)->nG rows d i+gO (fi n rows d i) x n=aC i fun k=>xN n rows x (d.src.getD k 0,d.mult.getD k 0)
 |0,_=>by rw[nG,fi,zB,aC];rfl
 |i+1,ht=>by
  have ih:=HM (x:=x) hx i fun k hk=>ht k (by omega)
  have hi:=ht i (by omega)
  have hl:=j5 n rows d i
  rw[nG,fi,aC]
  unfold xN at ih⊢
  dsimp only at ih⊢
  split
  ·rename_i hs
   rw[CY (by have:=hi.1;omega),if_pos (by have:=hi.1;omega),<-ih]
   have e:(fi n rows d i).getD (-1-d.src.getD i 0).toNat 0+d.mult.getD i 0-(fi n rows d i).getD (-1-d.src.getD i 0).toNat 0=d.mult.getD i 0:=by omega
   rw[e]
   omega
  ·rename_i hs
   have hn:(d.src.getD i 0).toNat<rows.length:=by have:=hi.1;omega
   rw[CZ n (Nat.le_refl _),<-ih]
   unfold rG
   rw[(hx _ hn).1,Int.mul_add]
   omega
theorem HN (x:List Int) (l:List (Int×Int)):lY n rows x l=aC l.length fun k=>xN n rows x (l.getD k (0,0)):=by
 have key:∀k,k<=l.length->lY n rows x (l.take k)=aC k fun k=>xN n rows x (l.getD k (0,0)):=by
  intro k
  induction k with
  |zero=>intro _;rfl
  |succ k ih=>
   intro h
   rw[KO (0,0) (by omega),zX,ih (by omega),aC,lY,lY]
   omega
 rw[<-key _ (Nat.le_refl _),List.take_length]
theorem MZ (h:fa m n rows t) (hw:∀i,i<m->(rows.getD i ar).coef.length=n) (hx:kC n rows) {r:Nat} (hr:r<m) (hneg:∀j,j<n->cl t r (j+1)<=0) (h0:cl t r 0<0) {g:Int} (hg:0<g) {d:kR} (hdiv:d.div=1)
  (hs:d.src=(de n t r n).map (·.1)) (hm:d.mult.length=d.src.length) (hgm:∀k,k<d.mult.length->g*d.mult.getD k 0=((de n t r n).getD k (0,0)).2) (hd:xv n rows d):t4 (j0 n rows d):=by
 have hlen:d.src.length=(de n t r n).length:=by rw[hs];simp
 have key:∀x:List Int,g*(nG rows d d.src.length+gO (fi n rows d d.src.length) x n)=cl t r 0+aC n fun j=>if t.fre.getD j 0<n then cl t r (j+1)*x.getD (t.fre.getD j 0).toNat 0 else 0:=by
  intro x
  rw[HM hx _ hd.2.1,<-MY h hw x hr hneg,HN,<-hlen,dv]
  refine aU fun k hk=>?_
  have e:d.src.getD k 0=((de n t r n).getD k (0,0)).1:=by
   rw[ap 0 hk,ap (0,0) (by omega)]
   simp only[hs,List.getElem_map]
  unfold xN
  dsimp only
  rw[<-Int.mul_assoc,hgm k (by omega),e]
 have hz:nG rows d d.src.length<0:=by
  have:=key []
  have e1:gO (fi n rows d d.src.length) [] n=0:=by
   rw[pM];exact ge n _ fun k _=>by simp
  have e2:(aC n fun j=>if t.fre.getD j 0<n then cl t r (j+1)*([]:List Int).getD (t.fre.getD j 0).toNat 0 else 0)=0:=ge n _ fun k _=>by simp
  rw[e1,e2] at this
  refine Classical.byContradiction fun hn=>?_
  have:=Int.mul_nonneg (show 0<=g by omega) (show 0<=nG rows d d.src.length by omega)
  simp only[Int.add_zero] at*
  omega
 refine⟨fun z hz'=>?_,?_⟩
 ·have hzn:z<n:=by unfold j0 at hz';simpa[j5] using hz'
  have e:(j0 n rows d).coef.getD z 0=(fi n rows d d.src.length).getD z 0:=by
   unfold j0
   dsimp only
   rw[ap 0 (by simp[j5,hzn]),List.getElem_map,ap 0 (by rw[j5];exact hzn),hdiv,Int.tdiv_one]
  rw[e]
  have k1:=key ((List.replicate n 0).set z 1)
  have k0:=key []
  have e1:gO (fi n rows d d.src.length) [] n=0:=by
   rw[pM];exact ge n _ fun k _=>by simp
  have e2:(aC n fun j=>if t.fre.getD j 0<n then cl t r (j+1)*([]:List Int).getD (t.fre.getD j 0).toNat 0 else 0)=0:=ge n _ fun k _=>by simp
  rw[e1,e2] at k0
  have hget:∀i:Nat,((List.replicate n (0:Int)).set z 1).getD i 0=if i=z then 1 else 0:=by
   intro i
   by_cases e:i=z
   ·subst e
    rw[if_pos rfl,gD,List.getElem?_set_self (by simpa using hzn)];rfl
   ·rw[if_neg e,gD,List.getElem?_set_ne (fun h=>e h.symm),List.getElem?_replicate]
    split<;>rfl
  have e3:gO (fi n rows d d.src.length) ((List.replicate n 0).set z 1) n=(fi n rows d d.src.length).getD z 0:=by
   rw[pM,gI (r:=z) hzn]
   ·rw[hget,if_pos rfl,Int.mul_one]
   ·intro i _ hi
    rw[hget,if_neg hi,Int.mul_zero]
  have e4:(aC n fun j=>if t.fre.getD j 0<n then cl t r (j+1)*((List.replicate n (0:Int)).set z 1).getD (t.fre.getD j 0).toNat 0 else 0)<=0:=by
   have:∀k,k<=n->(aC k fun j=>if t.fre.getD j 0<n then cl t r (j+1)*((List.replicate n (0:Int)).set z 1).getD (t.fre.getD j 0).toNat 0 else 0)<=0:=by
    intro k
    induction k with
    |zero=>intro _;simp[aC]
    |succ k ih=>
     intro hk
     have a:=ih (by omega)
     have b:=hneg k (by omega)
     rw[aC,hget]
     split
     ·split
      ·omega
      ·omega
     ·omega
   exact this n (Nat.le_refl _)
  rw[e3,Int.mul_add] at k1
  simp only[Int.add_zero] at k0
  refine Classical.byContradiction fun hn=>?_
  have:=Int.mul_pos hg (show 0<(fi n rows d d.src.length).getD z 0 by omega)
  omega
 ·unfold j0 Ao
  dsimp only
  rw[hdiv,Int.tmod_one,if_neg (by omega),Int.tdiv_one]
  exact hz
end
end
section
set_option maxRecDepth 100000
set_option maxHeartbeats 8000000
def gJ (l:List (Int×Int)):Nat->Int
 |0=>0
 |k+1=>(Int.gcd (gJ l k) (l.getD k (0,0)).2:Int)
def we (n:Nat) (t:cz) (r:Nat):kR:=⟨(de n t r n).map (·.1),(de n t r n).map (fun a=>a.2.tdiv (gJ (de n t r n) (de n t r n).length)),1⟩
def Aq (n:Nat) (t:cz) (r:Nat):Option kR:=
 if(∃j,j<(de n t r n).length/\65536<(we n t r).mult.getD j 0)\/64<(de n t r n).length then none else some (we n t r)
theorem Dl (l:List (Int×Int)):∀k j,j<k->gJ l k ∣ (l.getD j (0,0)).2
 |0,j,h=>by omega
 |k+1,j,h=>by
  rw[gJ]
  by_cases e:j=k
  ·subst e;exact Int.gcd_dvd_right ..
  ·exact Int.dvd_trans (Int.gcd_dvd_left ..) (Dl l k j (by omega))
theorem sn {l:List (Int×Int)} (h0:0<(l.getD 0 (0,0)).2):∀k,0<k->0<gJ l k
 |0,h=>by omega
 |k+1,_=>by
  rw[gJ]
  by_cases e:k=0
  ·subst e
   rw[gJ]
   have:=Int.gcd_zero_left (a:=(l.getD 0 (0,0)).2)
   omega
  ·have:=sn h0 k (by omega)
   have:Int.gcd (gJ l k) (l.getD k (0,0)).2≠0:=fun hh=>by
    have:=(Int.gcd_eq_zero_iff.1 hh).1
    omega
   omega
theorem pO (n:Nat) (t:cz) (r:Nat):∀k,0<(de n t r k).length/\(de n t r k).getD 0 (0,0)=HL n t r
 |0=>by simp[de]
 |k+1=>by
  obtain⟨a,b⟩:=pO n t r k
  rw[de]
  split
  ·refine⟨by rw[List.length_append];omega,?_⟩
   rw[gD,List.getElem?_append_left a,<-gD]
   exact b
  ·exact⟨a,b⟩
theorem pP (n:Nat) (t:cz) (r:Nat) {k:Nat} (hk:k<(de n t r n).length):(we n t r).mult.getD k 0=((de n t r n).getD k (0,0)).2.tdiv (gJ (de n t r n) (de n t r n).length):=by
 unfold we
 dsimp only
 rw[ap 0 (by simpa using hk),List.getElem_map,ap (0,0) hk]
section
variable {m n:Nat} {rows:List aV} {t:cz}
theorem Kf (h:fa m n rows t) (hw:∀i,i<m->(rows.getD i ar).coef.length=n) (hx:kC n rows) {r:Nat} (hr:r<m) (hneg:∀j,j<n->cl t r (j+1)<=0) (h0:cl t r 0<0) (hd:xv n rows (we n t r)):t4 (j0 n rows (we n t r)):=by
 have hh:=pO n t r n
 have hA:0<(HL n t r).2:=by unfold HL;split<;>exact h.dp.1
 have hg:0<gJ (de n t r n) (de n t r n).length:=sn (by rw[hh.2];exact hA) _ hh.1
 refine MZ h hw hx hr hneg h0 hg (d:=we n t r) rfl rfl (by unfold we;simp) (fun k hk=>?_) hd
 have hk':k<(de n t r n).length:=by unfold we at hk;simpa using hk
 rw[pP n t r hk']
 exact Int.mul_tdiv_cancel' (Dl _ _ _ hk')
def cC (n:Nat) (t:cz):Nat->Int×Int
 |0=>(-1,0)
 |i+1=>if t.bas.getD i 0<n/\(cl t i 0).tmod t.den≠0/\((cC n t i).1<0\/t.bas.getD i 0<(cC n t i).1) then(t.bas.getD i 0,(cl t i 0).tdiv t.den) else cC n t i
theorem so (hb:∀i,i<m->0<=t.bas.getD i 0) (hd:0<t.den) (h0:∀i,i<m->0<=cl t i 0):∀k,k<=m->-1<=(cC n t k).1/\(cC n t k).1<n/\0<=(cC n t k).2
 |0,_=>by
  rw[cC]
  dsimp only
  omega
 |k+1,hk=>by
  have ih:=so hb hd h0 k (by omega)
  rw[cC]
  split
  ·rename_i hc
   have:=hb k (by omega)
   refine⟨by dsimp only;omega,hc.1,?_⟩
   exact Int.tdiv_nonneg (h0 k (by omega)) (by omega)
  ·exact ih
theorem zY (hb:∀i,i<m->0<=t.bas.getD i 0):∀k,k<=m->(cC n t k).1<0->∀i,i<k->t.bas.getD i 0<n->(cl t i 0).tmod t.den=0
 |0,_,_,i,hi,_=>by omega
 |k+1,hk,h,i,hi,hn=>by
  rw[cC] at h
  split at h
  ·rename_i hc
   have:=hb k (by omega)
   dsimp only at h
   omega
  ·rename_i hc
   by_cases e:i=k
   ·subst e
    refine Classical.byContradiction fun hm=>hc ⟨hn,hm, .inl h⟩
   ·exact zY hb k (by omega) h i (by omega) hn
end
structure Br where
 rows:List aV
 nodes:List dW
 lines:Nat
 left:Nat
 point:Option (List Int)
 gave:Bool
def iR:dW:=⟨[],-1,0,0,0⟩
def Br.give (b:Br):Br:={b with gave:=true}
def cy (b:Br):Br:={b with nodes:=b.nodes++[iR],left:=b.left-1}
def kI (n i:Nat) (b:Br) (d:kR):Br×Bool:=
 if xv n b.rows d/\b.lines≠400 then
  ({b with rows:=b.rows++[j0 n b.rows d],lines:=b.lines+1,nodes:=b.nodes.set i {b.nodes.getD i an with lines:=(b.nodes.getD i an).lines++[d]}},true)
 else(b.give,false)
def Kg (r:aV):Nat->Int
 |0=>0
 |k+1=>(Int.gcd (Kg r k) (r.coef.getD k 0):Int)
def ox (r:aV):Int:=Kg r r.coef.length
def iq (n:Nat) (b:Br):Nat->Br×Bool
 |0=>(b,true)
 |k+1=>
  if(iq n b k).2=false then iq n b k
  else if 1<ox (b.rows.getD k ar)/\(b.rows.getD k ar).const.tmod (ox (b.rows.getD k ar))≠0 then kI n 0 (iq n b k).1 ⟨[(k:Int)],[1],ox (b.rows.getD k ar)⟩
  else iq n b k
def gK (i:Nat) (v a l:Int) (b:Br):Br:={b with nodes:=b.nodes.set i {b.nodes.getD i an with var:=v,at_:=a,left:=l}}
def gU (i:Nat) (v a r:Int) (b:Br):Br:={b with nodes:=b.nodes.set i {b.nodes.getD i an with var:=v,at_:=a,right:=r}}
def Br.put (b:Br) (l:List aV) (r:aV):Br:={b with rows:=l++[r]}
def Br.cut (b:Br) (m:Nat):Br:={b with rows:=b.rows.take m}
def lT (n:Nat):Nat->Br->Nat->Br
 |0,b,_=>b.give
 |k+1,b0,i=>
  let s:=if i=0 then iq n b0 b0.rows.length else(b0,true)
  let b:=s.1
  if s.2=false then b
  else if kD b.rows then b
  else if¬zU b.rows then b.give
  else match EV b.rows.length n 5000 (eP n b.rows) with
   |none=>b.give
   |some (t,bad)=>
    if 0<=bad then
     match Aq n t bad.toNat with
     |none=>b.give
     |some d=>(kI n i b d).1
    else
     let v:=(cC n t b.rows.length).1
     let a:=(cC n t b.rows.length).2
     if v<0 then(if lx (lX n t b.rows.length) then{b with point:=some (lX n t b.rows.length)} else b.give)
     else if 1048576<a then b.give
     else if b.left=0 then b.give
     else
      let c:=(lT n k ((gK i v a b.nodes.length (cy b)).put b.rows (gi n v a)) b.nodes.length).cut b.rows.length
      if c.point.isSome=true\/c.gave=true then c
      else if c.left=0 then c.give
      else(lT n k ((gU i v a c.nodes.length (cy c)).put b.rows (gj n v (a+1))) c.nodes.length).cut b.rows.length
def fG (s:dF) (nodes:Int):Br:=lT s.vars.toNat 401 ⟨s.rows,[iR],0,(min nodes 400-1).toNat,none,false⟩ 0
theorem wg {n:Nat} {rows:List aV} {l l':List kR}:∀{k:Nat},(∀j,j<k->l.getD j lA=l'.getD j lA)->oH n rows l k=oH n rows l' k
 |0,_=>rfl
 |k+1,h=>by rw[oH,oH,wg fun j hj=>h j (by omega),h k (by omega)]
theorem fb {α:Type} {l m:List α} {k:Nat} (d:α) (h:k<l.length):(l++m).getD k d=l.getD k d:=by
 rw[gD,List.getElem?_append_left h,<-gD]
theorem nq {α:Type} {l:List α} {a d:α}:(l++[a]).getD l.length d=a:=by
 rw[gD,List.getElem?_append_right (Nat.le_refl _),Nat.sub_self];rfl
theorem ig {α:Type} {l:List α} {k:Nat} {a d:α} (h:k<l.length):(l.set k a).getD k d=a:=by
 rw[gD,List.getElem?_set_self h];rfl
theorem fc {α:Type} {l:List α} {k j:Nat} {a d:α} (h:k≠j):(l.set k a).getD j d=l.getD j d:=by
 rw[gD,List.getElem?_set_ne h,<-gD]
theorem zZ {n:Nat} {rows a:List aV} {l:List kR} {d:kR} (h:oH n rows l l.length=some a) (hd:xv n a d):oH n rows (l++[d]) (l++[d]).length=some (a++[j0 n a d]):=by
 rw[List.length_append,List.length_singleton,oH,wg (l':=l) fun j hj=>fb _ hj,h]
 dsimp only
 rw[nq,if_pos hd]
structure fP (n i:Nat) (b b':Br):Prop where
 len:b'.nodes.length=b.nodes.length
 oth:∀j,j≠i->b'.nodes.getD j an=b.nodes.getD j an
 lft:b'.left=b.left
 pt:b'.point=b.point
 var:(b'.nodes.getD i an).var=(b.nodes.getD i an).var
 lin:b'.lines+(b.nodes.getD i an).lines.length=b.lines+(b'.nodes.getD i an).lines.length
 lmx:b.lines<=400->b'.lines<=400
 rows:∃m,b'.rows=b.rows++m
 rdy:kC n b.rows->kC n b'.rows
theorem fP.refl (n i:Nat) (b:Br):fP n i b b:=⟨rfl,fun _ _=>rfl,rfl,rfl,rfl,rfl,fun h=>h,⟨[],by simp⟩,fun h=>h⟩
theorem fP.trans {n i:Nat} {a b c:Br} (h:fP n i a b) (k:fP n i b c):fP n i a c:=by
 obtain⟨m1,e1⟩:=h.rows
 obtain⟨m2,e2⟩:=k.rows
 exact⟨k.len.trans h.len,fun j hj=>(k.oth j hj).trans (h.oth j hj),k.lft.trans h.lft,k.pt.trans h.pt,k.var.trans h.var,by have:=h.lin;have:=k.lin;omega,fun hh=>k.lmx (h.lmx hh),⟨m1++m2,by rw[e2,e1,List.append_assoc]⟩,fun hh=>k.rdy (h.rdy hh)⟩
theorem fP.give (n i:Nat) (b:Br):fP n i b b.give:=⟨rfl,fun _ _=>rfl,rfl,rfl,rfl,rfl,fun h=>h,⟨[],by simp[Br.give]⟩,fun h=>h⟩
theorem Dm {n i:Nat} {b:Br} {d:kR} (hi:i<b.nodes.length):fP n i b (kI n i b d).1/\(((kI n i b d).2=false/\(kI n i b d).1.gave=true)\/
  ((kI n i b d).2=true/\(kI n i b d).1.gave=b.gave/\xv n b.rows d/\(kI n i b d).1.rows=b.rows++[j0 n b.rows d]/\((kI n i b d).1.nodes.getD i an).lines=(b.nodes.getD i an).lines++[d])):=by
 unfold kI
 split
 ·rename_i hc
  refine⟨⟨by simp,fun j hj=>fc fun e=>hj e.symm,rfl,rfl,by dsimp only;rw[ig hi],?_,fun h=>by dsimp only;omega,⟨[j0 n b.rows d],rfl⟩,fun h=>ip h (CX hc.1)⟩, .inr ⟨rfl,rfl,hc.1,rfl,by dsimp only;rw[ig hi]⟩⟩
  dsimp only
  rw[ig hi]
  simp only[List.length_append,List.length_cons,List.length_nil]
  omega
 ·exact⟨fP.give n i b, .inl ⟨rfl,rfl⟩⟩
theorem xO {n:Nat} {b:Br} (hi:0<b.nodes.length) (h0:(b.nodes.getD 0 an).lines=[]) (hg:b.gave=false):∀k,k<=b.rows.length->fP n 0 b (iq n b k).1/\(((iq n b k).2=false/\(iq n b k).1.gave=true)\/
  ((iq n b k).2=true/\(iq n b k).1.gave=false/\oH n b.rows ((iq n b k).1.nodes.getD 0 an).lines ((iq n b k).1.nodes.getD 0 an).lines.length=some (iq n b k).1.rows))
 |0,_=>⟨fP.refl n 0 b, .inr ⟨rfl,hg,by rw[iq,h0];rfl⟩⟩
 |k+1,hk=>by
  obtain⟨h1,h2⟩:=xO (n:=n) hi h0 hg k (by omega)
  rw[iq]
  split
  ·exact⟨h1,h2⟩
  ·rename_i hs
   have h2:=h2.resolve_left fun h=>hs h.1
   split
   ·rename_i hc
    obtain⟨k1,k2⟩:=Dm (n:=n) (i:=0) (b:=(iq n b k).1) (d:=⟨[(k:Int)],[1],ox (b.rows.getD k ar)⟩) (by rw[h1.len];exact hi)
    refine⟨h1.trans k1,?_⟩
    rcases k2 with k2|⟨k2,k3,k4,k5,k6⟩
    ·exact .inl k2
    ·refine .inr ⟨k2,k3.trans h2.2.1,?_⟩
     rw[k6,k5]
     exact zZ h2.2.2 k4
   ·exact⟨h1, .inr h2⟩
theorem wh {A B:List dW} {c:Int} {lo:Nat}:∀{hi:Nat},lo<=hi->(∀j,lo<=j->j<hi->A.getD j an=B.getD j an)->gh A c hi-gh A c lo=gh B c hi-gh B c lo
 |0,h,_=>by rw[Nat.le_zero.1 h];omega
 |k+1,h,hj=>by
  by_cases e:lo=k+1
  ·subst e;omega
  ·have ih:=wh (A:=A) (B:=B) (c:=c) (lo:=lo) (hi:=k) (by omega) fun j h1 h2=>hj j h1 (by omega)
   rw[gh,gh,hj k (by omega) (by omega)]
   omega
theorem wi {A B:List dW} {lo:Nat}:∀{hi:Nat},lo<=hi->(∀j,lo<=j->j<hi->A.getD j an=B.getD j an)->d7 A hi+d7 B lo=d7 B hi+d7 A lo
 |0,h,_=>by rw[Nat.le_zero.1 h];omega
 |k+1,h,hj=>by
  by_cases e:lo=k+1
  ·subst e;omega
  ·have ih:=wi (A:=A) (B:=B) (lo:=lo) (hi:=k) (by omega) fun j h1 h2=>hj j h1 (by omega)
   rw[d7,d7,hj k (by omega) (by omega)]
   omega
theorem EY {n a b i:Nat} {x:dW} (h:lB n a i x) (hab:a<=b):lB n b i x:=by
 unfold lB at*
 rcases h with h|⟨h1,h2,h3,h4⟩
 ·exact .inl h
 ·exact .inr ⟨h1,h2,by omega,by omega⟩
structure iJ (n i:Nat) (b b':Br):Prop where
 pre:∀j,j<i->b'.nodes.getD j an=b.nodes.getD j an
 len:b.nodes.length<=b'.nodes.length
 cnt:b'.nodes.length+b'.left=b.nodes.length+b.left
 lin:b'.lines+d7 b'.nodes i=b.lines+d7 b'.nodes b'.nodes.length
 lmx:b'.lines<=400
 rows:∃m,b'.rows=b.rows++m
 rdy:kC n b'.rows
 vld:∀j,i<=j->j<b'.nodes.length->b'.point=none->b'.gave=false->lB n b'.nodes.length j (b'.nodes.getD j an)
 par:b'.point=none->b'.gave=false->∀c:Int,gh b'.nodes c b'.nodes.length-gh b'.nodes c i=if(i:Int)<c/\c<b'.nodes.length then 1 else 0
 clo:b'.point=none->b'.gave=false->∀(N:List dW),(∀j,i<=j->j<b'.nodes.length->N.getD j an=b'.nodes.getD j an)->∀f,b'.nodes.length-i<=f->jL n N f i b.rows=true
 pt:∀x,b'.point=some x->x.length=n/\lx x/\∀l,l<b.rows.length->0<=rG (b.rows.getD l ar) x
structure iT (n i:Nat) (b:Br):Prop where
 len:b.nodes.length=i+1
 new:b.nodes.getD i an=iR
 pt:b.point=none
 gv:b.gave=false
 rdy:kC n b.rows
 lmx:b.lines<=400
 n96:n<=96
theorem kJ (A:List dW) (i:Nat):d7 A (i+1)=d7 A i+(A.getD i an).lines.length:=by rw[d7]
theorem z3 (A:List dW) (c:Int) (i:Nat):gh A c (i+1)-gh A c i=if(A.getD i an).var=-1 then 0 else(if(A.getD i an).left=c then 1 else 0)+(if(A.getD i an).right=c then 1 else 0):=by rw[gh];omega
section
variable {n i:Nat} {b b':Br}
theorem iJ.leaf (h:iT n i b) (ha:fP n i b b') (hc:b'.gave=false->oH n b.rows (b'.nodes.getD i an).lines (b'.nodes.getD i an).lines.length=some b'.rows/\kD b'.rows):iJ n i b b':=by
 have hl:b'.nodes.length=i+1:=ha.len.trans h.len
 have hv:(b'.nodes.getD i an).var=-1:=by rw[ha.var,h.new];rfl
 have h0:(b.nodes.getD i an).lines.length=0:=by rw[h.new];rfl
 refine⟨fun j hj=>ha.oth j (by omega),by have:=ha.len;omega,by have:=ha.len;have:=ha.lft;omega,?_,ha.lmx h.lmx,ha.rows,ha.rdy h.rdy,?_,?_,?_,?_⟩
 ·rw[hl,kJ]
  have:=ha.lin
  omega
 ·intro j h1 h2 _ _
  obtain rfl:j=i:=by omega
  exact .inl hv
 ·intro _ _ c
  rw[hl,z3,if_pos hv,if_neg (by omega)]
 ·intro _ hg N hN f hf
  obtain⟨e,hs⟩:=hc hg
  obtain⟨f,rfl⟩:∃f',f=f'+1:=⟨f-1,by omega⟩
  have hNi:=hN i (Nat.le_refl _) (by omega)
  rw[jL,hNi,e]
  dsimp only
  rw[if_pos hv]
  exact decide_eq_true hs
 ·intro x hx
  rw[ha.pt,h.pt] at hx
  cases hx
theorem fP.giv (h:fP n i b b'):fP n i b b'.give:=h.trans (fP.give n i b')
theorem iJ.given (h:iT n i b) (ha:fP n i b b') (hg:b'.gave=true):iJ n i b b':=iJ.leaf h ha fun h0=>by rw[hg] at h0;cases h0
end
end
section
set_option maxRecDepth 100000
set_option maxHeartbeats 8000000
section
variable {n i:Nat} {b b':Br}
structure uT (n i:Nat) (v a:Int) (b b1 c:Br):Prop where
 pre:∀j,j<i->c.nodes.getD j an=b.nodes.getD j an
 len:i+2<=c.nodes.length
 cnt:c.nodes.length+c.left=b.nodes.length+b.left
 lin:c.lines+d7 c.nodes i=b.lines+d7 c.nodes c.nodes.length
 lmx:c.lines<=400
 rows:c.rows=b1.rows
 nod:c.nodes.getD i an={b1.nodes.getD i an with var:=v,at_:=a,left:=((i+1:Nat):Int)}
 vld:∀j,i+1<=j->j<c.nodes.length->c.point=none->c.gave=false->lB n c.nodes.length j (c.nodes.getD j an)
 par:c.point=none->c.gave=false->∀x:Int,gh c.nodes x c.nodes.length-gh c.nodes x (i+1)=if((i+1:Nat):Int)<x/\x<c.nodes.length then 1 else 0
 clo:c.point=none->c.gave=false->∀(N:List dW),(∀j,i+1<=j->j<c.nodes.length->N.getD j an=c.nodes.getD j an)->∀f,c.nodes.length-(i+1)<=f->jL n N f (i+1) (b1.rows++[gi n v a])=true
 pt:∀x,c.point=some x->x.length=n/\lx x/\∀l,l<b1.rows.length->0<=rG (b1.rows.getD l ar) x
theorem nt (h:iT n i b) (ha:fP n i b b'):b'.lines=b.lines+(b'.nodes.getD i an).lines.length:=by
 have:=ha.lin
 have h0:(b.nodes.getD i an).lines.length=0:=by rw[h.new];rfl
 omega
theorem Dn {v a:Int} {c0:Br} (h:iT n i b) (ha:fP n i b b') (hv:0<=v/\v<n) (h0:0<=a/\a<=1048576) (hl:b'.left≠0)
  (hc:iJ n (i+1) ((gK i v a b'.nodes.length (cy b')).put b'.rows (gi n v a)) c0):uT n i v a b b' (c0.cut b'.rows.length):=by
 have hb:b'.nodes.length=i+1:=ha.len.trans h.len
 have e0:((gK i v a b'.nodes.length (cy b')).put b'.rows (gi n v a)).nodes.length=i+2:=by
  unfold gK cy Br.put
  simp only[List.length_set,List.length_append,List.length_singleton]
  omega
 have e1:∀j,j<i->((gK i v a b'.nodes.length (cy b')).put b'.rows (gi n v a)).nodes.getD j an=b'.nodes.getD j an:=fun j hj=>by
  unfold gK cy Br.put
  dsimp only
  rw[fc (by omega),fb an (by omega)]
 have e2:((gK i v a b'.nodes.length (cy b')).put b'.rows (gi n v a)).nodes.getD i an={b'.nodes.getD i an with var:=v,at_:=a,left:=((i+1:Nat):Int)}:=by
  unfold gK cy Br.put
  dsimp only
  rw[ig (by rw[List.length_append];omega),fb an (by omega),hb]
 have e3:((gK i v a b'.nodes.length (cy b')).put b'.rows (gi n v a)).left=b'.left-1:=rfl
 have e4:((gK i v a b'.nodes.length (cy b')).put b'.rows (gi n v a)).lines=b'.lines:=rfl
 have e5:((gK i v a b'.nodes.length (cy b')).put b'.rows (gi n v a)).rows=b'.rows++[gi n v a]:=rfl
 generalize (gK i v a b'.nodes.length (cy b')).put b'.rows (gi n v a)=bL at*
 have hni:=hc.pre i (by omega)
 rw[e2] at hni
 obtain⟨m,em⟩:=hc.rows
 have hlen:=hc.len
 have hcnt:=hc.cnt
 refine⟨fun j hj=>?_,?_,?_,?_,hc.lmx,?_,hni,hc.vld,hc.par,fun h1 h2 N hN f hf=>?_,fun x hx=>?_⟩
 ·exact(hc.pre j (by omega)).trans ((e1 j hj).trans (ha.oth j (by omega)))
 ·show i+2<=c0.nodes.length
  omega
 ·show c0.nodes.length+c0.left=b.nodes.length+b.left
  have:=ha.lft
  have:=h.len
  omega
 ·show c0.lines+d7 c0.nodes i=b.lines+d7 c0.nodes c0.nodes.length
  have k1:=hc.lin
  have k2:=nt h ha
  rw[kJ,hni] at k1
  dsimp only at k1
  omega
 ·show c0.rows.take b'.rows.length=b'.rows
  rw[em,e5,List.append_assoc,List.take_left']
  rfl
 ·have:=hc.clo h1 h2 N hN f hf
  rw[e5] at this
  exact this
 ·obtain⟨k1,k2,k3⟩:=hc.pt x hx
  refine⟨k1,k2,fun l hl=>?_⟩
  have:=k3 l (by rw[e5,List.length_append];omega)
  rwa [e5,fb ar hl] at this
theorem wj {v a:Int} {c:Br} (h:iT n i b) (ha:fP n i b b') (hc:uT n i v a b b' c) (hs:c.point.isSome=true\/c.gave=true):iJ n i b c:=by
 have hno:¬(c.point=none/\c.gave=false):=by
  rintro⟨h1,h2⟩
  rcases hs with hs|hs
  ·rw[h1] at hs;cases hs
  ·rw[h2] at hs;cases hs
 obtain⟨m,em⟩:=ha.rows
 refine⟨hc.pre,by have:=h.len;have:=hc.len;omega,hc.cnt,hc.lin,hc.lmx,⟨m,by rw[hc.rows,em]⟩,by rw[hc.rows];exact ha.rdy h.rdy,fun _ _ _ h1 h2=>absurd ⟨h1,h2⟩ hno,fun h1 h2=>absurd ⟨h1,h2⟩ hno,fun h1 h2=>absurd ⟨h1,h2⟩ hno,fun x hx=>?_⟩
 obtain⟨k1,k2,k3⟩:=hc.pt x hx
 refine⟨k1,k2,fun l hl=>?_⟩
 have:=k3 l (by rw[em,List.length_append];omega)
 rwa [em,fb ar hl] at this
theorem uT.giv {v a:Int} {b1 c:Br} (h:uT n i v a b b1 c):uT n i v a b b1 c.give:=
 ⟨h.pre,h.len,h.cnt,h.lin,h.lmx,h.rows,h.nod,fun _ _ _ _ h2=>(by cases h2),fun _ h2=>(by cases h2),fun _ h2=>(by cases h2),h.pt⟩
theorem OX (p:Prop) [Decidable p]:((if p then(1:Int) else 0)=1/\p)\/((if p then(1:Int) else 0)=0/\¬p):=by
 by_cases h:p
 ·exact .inl ⟨if_pos h,h⟩
 ·exact .inr ⟨if_neg h,h⟩
theorem Kh {v a:Int} {c d0:Br} (h:iT n i b) (ha:fP n i b b') (hln:oH n b.rows (b'.nodes.getD i an).lines (b'.nodes.getD i an).lines.length=some b'.rows) (hv:0<=v/\v<n) (h0:0<=a/\a<=1048576)
  (hc:uT n i v a b b' c) (hp:c.point=none) (hg:c.gave=false) (hl:c.left≠0)
  (hd:iJ n c.nodes.length ((gU i v a c.nodes.length (cy c)).put b'.rows (gj n v (a+1))) d0):iJ n i b (d0.cut b'.rows.length):=by
 have hcl:=hc.len
 have e0:((gU i v a c.nodes.length (cy c)).put b'.rows (gj n v (a+1))).nodes.length=c.nodes.length+1:=by
  unfold gU cy Br.put
  simp only[List.length_set,List.length_append,List.length_singleton]
 have e1:∀j,j≠i->j<c.nodes.length->((gU i v a c.nodes.length (cy c)).put b'.rows (gj n v (a+1))).nodes.getD j an=c.nodes.getD j an:=fun j hj hj2=>by
  unfold gU cy Br.put
  dsimp only
  rw[fc (by omega),fb an hj2]
 have e2:((gU i v a c.nodes.length (cy c)).put b'.rows (gj n v (a+1))).nodes.getD i an={b'.nodes.getD i an with var:=v,at_:=a,left:=((i+1:Nat):Int),right:=(c.nodes.length:Int)}:=by
  unfold gU cy Br.put
  dsimp only
  rw[ig (by rw[List.length_append];omega),fb an (by omega),hc.nod]
 have e3:((gU i v a c.nodes.length (cy c)).put b'.rows (gj n v (a+1))).left=c.left-1:=rfl
 have e4:((gU i v a c.nodes.length (cy c)).put b'.rows (gj n v (a+1))).lines=c.lines:=rfl
 have e5:((gU i v a c.nodes.length (cy c)).put b'.rows (gj n v (a+1))).rows=b'.rows++[gj n v (a+1)]:=rfl
 generalize (gU i v a c.nodes.length (cy c)).put b'.rows (gj n v (a+1))=bR at*
 have hni:=hd.pre i (by omega)
 rw[e2] at hni
 have hoj:∀j,j≠i->j<c.nodes.length->d0.nodes.getD j an=c.nodes.getD j an:=fun j h1 h2=>(hd.pre j h2).trans (e1 j h1 h2)
 obtain⟨m,em⟩:=hd.rows
 obtain⟨m1,em1⟩:=ha.rows
 have hlen:=hd.len
 have hcnt:=hd.cnt
 have htake:d0.rows.take b'.rows.length=b'.rows:=by
  rw[em,e5,List.append_assoc,List.take_left']
  rfl
 have hlo:i+1<=c.nodes.length:=by omega
 refine⟨fun j hj=>?_,?_,?_,?_,hd.lmx,⟨m1,by show d0.rows.take b'.rows.length=_;rw[htake,em1]⟩,?_,fun j h1 h2 h3 h4=>?_,fun h1 h2 x=>?_,fun h1 h2 N hN f hf=>?_,fun x hx=>?_⟩
 ·exact(hoj j (by omega) (by omega)).trans (hc.pre j hj)
 ·show b.nodes.length<=d0.nodes.length
  have:=h.len
  omega
 ·show d0.nodes.length+d0.left=b.nodes.length+b.left
  have:=hc.cnt
  omega
 ·show d0.lines+d7 d0.nodes i=b.lines+d7 d0.nodes d0.nodes.length
  have k1:=hd.lin
  have k2:=hc.lin
  have k3:=wi (A:=d0.nodes) (B:=c.nodes) hlo fun j h1 h2=>hoj j (by omega) h2
  rw[kJ,kJ,hni,hc.nod] at k3
  dsimp only at k3
  omega
 ·show kC n (d0.rows.take b'.rows.length)
  rw[htake];exact ha.rdy h.rdy
 ·show lB n d0.nodes.length j (d0.nodes.getD j an)
  by_cases hji:j=i
  ·subst hji
   rw[hni]
   refine .inr ⟨hv,h0,?_,?_⟩
   ·dsimp only;omega
   ·dsimp only;omega
  ·by_cases hjc:j<c.nodes.length
   ·rw[hoj j hji hjc]
    exact EY (hc.vld j (by omega) hjc hp hg) (by omega)
   ·exact hd.vld j (by omega) h2 h3 h4
 ·show gh d0.nodes x d0.nodes.length-gh d0.nodes x i=if(i:Int)<x/\x<d0.nodes.length then 1 else 0
  have k1:=hd.par h1 h2 x
  have k2:=hc.par hp hg x
  have k3:=wh (A:=d0.nodes) (B:=c.nodes) (c:=x) hlo fun j h1 h2=>hoj j (by omega) h2
  have k4:=z3 d0.nodes x i
  rw[hni,if_neg (by dsimp only;omega)] at k4
  dsimp only at k4
  have f1:=OX (((i+1:Nat):Int)=x)
  have f2:=OX ((c.nodes.length:Int)=x)
  have f3:=OX ((i:Int)<x/\x<d0.nodes.length)
  have f4:=OX ((c.nodes.length:Int)<x/\x<d0.nodes.length)
  have f5:=OX (((i+1:Nat):Int)<x/\x<c.nodes.length)
  omega
 ·have hNi:=hN i (Nat.le_refl _) (by show i<d0.nodes.length;omega)
  obtain⟨f,rfl⟩:∃f',f=f'+1:=⟨f-1,by have:d0.nodes.length-i<=f:=hf;omega⟩
  have hf:d0.nodes.length-i<=f+1:=hf
  have hNi:N.getD i an=d0.nodes.getD i an:=hNi
  have a1:=hc.clo hp hg N (fun j g1 g2=>(hN j (by omega) (by show j<d0.nodes.length;omega)).trans (hoj j (by omega) g2)) f (by omega)
  have a2:=hd.clo h1 h2 N (fun j g1 g2=>hN j (by omega) g2) f (by omega)
  rw[e5] at a2
  rw[jL,hNi,hni]
  dsimp only
  rw[hln]
  dsimp only
  rw[if_neg (by omega),tN,tN,a1,a2]
  rfl
 ·obtain⟨k1,k2,k3⟩:=hd.pt x hx
  refine⟨k1,k2,fun l hl=>?_⟩
  have hlt:l<b'.rows.length:=by rw[em1,List.length_append];omega
  have:=k3 l (by rw[e5,List.length_append];omega)
  rwa [e5,fb ar hlt,em1,fb ar hl] at this
theorem iJ.pnt {x:List Int} (h:iT n i b) (ha:fP n i b b') (h1:x.length=n) (h2:lx x) (h3:∀l,l<b'.rows.length->0<=rG (b'.rows.getD l ar) x):iJ n i b {b' with point:=some x}:=by
 have hl:b'.nodes.length=i+1:=ha.len.trans h.len
 obtain⟨m,em⟩:=ha.rows
 refine⟨fun j hj=>ha.oth j (by omega),by have:=ha.len;show b.nodes.length<=b'.nodes.length;omega,by have:=ha.len;have:=ha.lft;show b'.nodes.length+b'.left=_;omega,?_,ha.lmx h.lmx,⟨m,em⟩,ha.rdy h.rdy,fun _ _ _ e=>(by cases e),fun e=>(by cases e),fun e=>(by cases e),fun y hy=>?_⟩
 ·show b'.lines+d7 b'.nodes i=b.lines+d7 b'.nodes b'.nodes.length
  rw[hl,kJ]
  have:=nt h ha
  omega
 ·cases hy
  refine⟨h1,h2,fun l hl=>?_⟩
  have:=h3 l (by rw[em,List.length_append];omega)
  rwa [em,fb ar hl] at this
end
theorem BS {l:List aV} {r:aV} (h:t4 r):kD (l++[r]):=⟨l.length,by simp,by rw[nq];exact h⟩
theorem qN {n:Nat}:∀(k:Nat) {i:Nat} {b:Br},iT n i b->iJ n i b (lT n k b i)
 |0,i,b,h=>iJ.given h (fP.give n i b) rfl
 |k+1,i,b0,h=>by
  have hs:fP n i b0 (if i=0 then iq n b0 b0.rows.length else(b0,true)).1/\(((if i=0 then iq n b0 b0.rows.length else(b0,true)).2=false/\(if i=0 then iq n b0 b0.rows.length else(b0,true)).1.gave=true)\/
    ((if i=0 then iq n b0 b0.rows.length else(b0,true)).2=true/\(if i=0 then iq n b0 b0.rows.length else(b0,true)).1.gave=false/\
     oH n b0.rows ((if i=0 then iq n b0 b0.rows.length else(b0,true)).1.nodes.getD i an).lines ((if i=0 then iq n b0 b0.rows.length else(b0,true)).1.nodes.getD i an).lines.length=some (if i=0 then iq n b0 b0.rows.length else(b0,true)).1.rows)):=by
   by_cases e:i=0
   ·subst e
    rw[if_pos rfl]
    exact xO (by have:=h.len;omega) (by rw[h.new];rfl) h.gv _ (Nat.le_refl _)
   ·rw[if_neg e]
    refine⟨fP.refl n i b0, .inr ⟨rfl,h.gv,?_⟩⟩
    dsimp only
    rw[h.new]
    rfl
  rw[lT]
  dsimp only
  generalize (if i=0 then iq n b0 b0.rows.length else(b0,true))=s at hs⊢
  obtain⟨b,ok⟩:=s
  dsimp only at hs⊢
  obtain⟨ha,hs⟩:=hs
  rcases hs with ⟨rfl,hg⟩|⟨rfl,hg,hln⟩
  ·rw[if_pos rfl]
   exact iJ.given h ha hg
  rw[if_neg (by simp)]
  have hrdy:=ha.rdy h.rdy
  have hb:b.nodes.length=i+1:=ha.len.trans h.len
  by_cases hsc:kD b.rows
  ·rw[if_pos hsc]
   exact iJ.leaf h ha fun _=>⟨hln,hsc⟩
  rw[if_neg hsc]
  by_cases hnb:zU b.rows
  case neg=>
   rw[if_pos hnb]
   exact iJ.given h ha.giv rfl
  rw[if_neg (fun hh=>hh hnb)]
  have hw:∀j,j<b.rows.length->(b.rows.getD j ar).coef.length=n:=fun j hj=>(hrdy j hj).1
  have T0:=BQ hw hnb
  cases hsl:EV b.rows.length n 5000 (eP n b.rows) with
  |none=>exact iJ.given h ha.giv rfl
  |some z=>
   obtain⟨t,bad⟩:=z
   dsimp only
   obtain⟨T,hbad⟩:=Dh 5000 T0 hsl
   by_cases hb0:0<=bad
   ·rw[if_pos hb0]
    obtain⟨hbr,hneg,hcol⟩:(0<=bad/\bad<b.rows.length)/\cl t bad.toNat 0<0/\∀j,j<n->cl t bad.toNat (j+1)<=0:=by
     rcases hbad with hbad|hbad
     ·omega
     ·exact hbad
    cases hfk:Aq n t bad.toNat with
    |none=>exact iJ.given h ha.giv rfl
    |some d=>
     dsimp only
     have hde:d=we n t bad.toNat:=by
      unfold Aq at hfk
      split at hfk
      ·cases hfk
      ·exact(Option.some.inj hfk).symm
     subst hde
     obtain⟨k1,k2⟩:=Dm (n:=n) (i:=i) (b:=b) (d:=we n t bad.toNat) (by omega)
     rcases k2 with k2|⟨_,_,k4,k5,k6⟩
     ·exact iJ.given h (ha.trans k1) k2.2
     ·refine iJ.leaf h (ha.trans k1) fun _=>⟨?_,?_⟩
      ·rw[k6,k5]
       exact zZ hln k4
      ·rw[k5]
       exact BS (Kf T hw hrdy (by omega) hcol hneg k4)
   ·rw[if_neg hb0]
    have h0:∀j,j<b.rows.length->0<=cl t j 0:=by
     rcases hbad with hbad|hbad
     ·exact hbad.2
     ·omega
    have hbas:∀j,j<b.rows.length->0<=t.bas.getD j 0:=fun j hj=>(pN T _ (List.mem_append_left _ (qm (l:=t.bas) 0 (by rw[T.bl];exact hj)))).1
    have hfr:=so (n:=n) hbas T.dp.1 h0 b.rows.length (Nat.le_refl _)
    by_cases hv:(cC n t b.rows.length).1<0
    ·rw[if_pos hv]
     by_cases hpos:lx (lX n t b.rows.length)
     ·rw[if_pos hpos]
      exact iJ.pnt h ha (ka n t _) hpos (MW T hw h0 fun j hj=>zY hbas _ (Nat.le_refl _) hv j hj)
     ·rw[if_neg hpos]
      exact iJ.given h ha.giv rfl
    rw[if_neg hv]
    generalize (cC n t b.rows.length).1=v at*
    generalize (cC n t b.rows.length).2=a at*
    by_cases hal:1048576<a
    ·rw[if_pos hal]
     exact iJ.given h ha.giv rfl
    rw[if_neg hal]
    by_cases hl:b.left=0
    ·rw[if_pos hl]
     exact iJ.given h ha.giv rfl
    rw[if_neg hl]
    have hvr:0<=v/\v<n:=by omega
    have har:0<=a/\a<=1048576:=by omega
    have hL:iT n (i+1) ((gK i v a b.nodes.length (cy b)).put b.rows (gi n v a)):=by
     refine⟨?_,?_,ha.pt.trans h.pt,hg,ip hrdy (j6 (.inr rfl) (by unfold ia;omega)),ha.lmx h.lmx,h.n96⟩
     ·unfold gK cy Br.put
      simp only[List.length_set,List.length_append,List.length_singleton]
      omega
     ·unfold gK cy Br.put
      dsimp only
      rw[fc (by omega),<-hb,nq]
    have hH:=Dn h ha hvr har hl (qN k hL)
    rw[hb] at hH⊢
    generalize (lT n k ((gK i v a ((i+1:Nat):Int) (cy b)).put b.rows (gi n v a)) (i+1)).cut b.rows.length=c at hH⊢
    by_cases hst:c.point.isSome=true\/c.gave=true
    ·rw[if_pos hst]
     exact wj h ha hH hst
    rw[if_neg hst]
    by_cases hcl:c.left=0
    ·rw[if_pos hcl]
     exact wj h ha hH.giv (.inr rfl)
    rw[if_neg hcl]
    have hcp:c.point=none:=by
     cases hp:c.point with
     |none=>rfl
     |some x=>exact absurd (.inl (by rw[hp];rfl)) hst
    have hcg:c.gave=false:=by
     cases hp:c.gave with
     |false=>rfl
     |true=>exact absurd (.inr hp) hst
    have hR:iT n c.nodes.length ((gU i v a c.nodes.length (cy c)).put b.rows (gj n v (a+1))):=by
     refine⟨?_,?_,hcp,hcg,ip hrdy (j6 (.inl rfl) (by unfold ia;omega)),hH.lmx,h.n96⟩
     ·unfold gU cy Br.put
      simp only[List.length_set,List.length_append,List.length_singleton]
     ·have:=hH.len
      unfold gU cy Br.put
      dsimp only
      rw[fc (by omega),nq]
    have e:c.rows=b.rows:=hH.rows
    exact Kh h ha hln hvr har hH hcp hcg hcl (qN k hR)
theorem Dp {s:dF} (h:eZ s=0) {nodes:Int} (hn:0<nodes):iJ s.vars.toNat 0 ⟨s.rows,[iR],0,(min nodes 400-1).toNat,none,false⟩ (fG s nodes):=by
 have:=(lw h).1
 exact qN 401 ⟨rfl,rfl,rfl,rfl,r8 h,Nat.zero_le _,by omega⟩
theorem EZ {s:dF} (h:eZ s=0) {nodes:Int} (hn:0<nodes) {x:List Int} (hx:(fG s nodes).point=some x):Ot s x:=by
 have hB:=Dp h hn
 obtain⟨h1,h2,h3⟩:=hB.pt x hx
 have:=(lw h).1
 exact⟨h,by omega,h2,h3⟩
theorem un {s:dF} (h:eZ s=0) {nodes:Int} (hn:0<nodes) (hp:(fG s nodes).point=none) (hg:(fG s nodes).gave=false):qG s (fG s nodes).nodes:=by
 have hB:=Dp h hn
 generalize fG s nodes=b at hB hp hg
 have hl:=hB.len
 have hc:=hB.cnt
 simp only[List.length_singleton] at hl hc
 refine⟨h,⟨⟨by omega,?_⟩,fun i hi=>hB.vld i (Nat.zero_le _) hi hp hg,fun i hi h0=>?_,?_⟩,?_⟩
 ·omega
 ·have:=hB.par hp hg (i:Int)
  rw[if_pos (by omega)] at this
  have e:gh b.nodes (i:Int) 0=0:=rfl
  omega
 ·have k1:=hB.lin
  have k2:=hB.lmx
  have e:d7 b.nodes 0=0:=rfl
  have e2:(⟨s.rows,[iR],0,(min nodes 400-1).toNat,none,false⟩:Br).lines=0:=rfl
  omega
 ·exact hB.clo hp hg b.nodes (fun _ _ _=>rfl) b.nodes.length (by omega)
end
end Go.Proofs.YtekmminpfhacpaaGreatDoor
