import Derived.Test.YtekmminpfhacpaaGreatDoorQ1
set_option linter.unusedVariables false
set_option linter.unusedSimpArgs false
namespace Go.Proofs.YtekmminpfhacpaaGreatDoor
set_option maxRecDepth 100000
set_option maxHeartbeats 32000000
theorem uw (r:aV) (hl:r.coef.length<=140737488355328):ah Tryz.prog 223 [.agg (aw r)] (fun u=>u= .bool (decide (t4 r))):=by
 refine ah.intro ab ac Tryz.func223 rfl (by decide) ?_;(conv=>whnf)
 refine au rfl ?_
 conv=>whnf
 refine aJ.loopF ab ac (fun k:Nat=>k<=r.coef.length/\∀j,j<k->r.coef.getD j 0<=0) (fun k=>[(3, .int .i64 (k:Int))]) (fun _=>[]) (fun k=>r.coef.length-k) 0 ⟨Nat.zero_le _,fun j hj=>absurd hj (Nat.not_lt_zero _)⟩ ?_;conv=>whnf
 refine⟨sI,?_⟩
 rintro k ⟨hk,ha⟩
 conv=>whnf
 refine ae ?_ ?_<;>(intro h1;conv=>whnf)
 ·refine nI ?_
  rw[tN]
  conv=>whnf
  refine ae ?_ ?_<;>(intro h2;conv=>whnf)
  ·exact⟨aA (fun h=>by have:=h.1 k (by omega);omega),rfl⟩
  ·repeat' ((first|refine nI ?_|refine aI ?_|refine uI ?_|refine vI ?_|refine dI ?_|refine dR ?_|refine dP ?_|refine au rfl ?_|refine pI _ rfl ?_|refine ak _ rfl ?_|refine tI ?_|refine fI ?_|refine ae (fun _=>?_) (fun _=>?_))<;>conv=>whnf)
   refine⟨k+1,sI,⟨by omega,fun j hj=>?_⟩,by dsimp only;omega⟩
   by_cases e:j=k
   ·subst e;omega
   ·exact ha j (by omega)
 ·obtain rfl:k=r.coef.length:=by omega
  refine ae ?_ ?_<;>(intro h2;conv=>whnf)
  ·exact⟨bE ⟨ha,h2⟩,rfl⟩
  ·exact⟨aA (fun h=>h2 h.2),rfl⟩
theorem O8 (a d:Int) (ha:-9223372036854775807<=a/\a<=9223372036854775807) (hd:1<=d):ah Tryz.prog 275 [.int .i64 a, .int .i64 d] (fun u=>u= .int .i64 (Ao a d)):=by
 have hq:-9223372036854775807<=a.tdiv d/\a.tdiv d<=9223372036854775807:=by
  have h:=Int.natAbs_tdiv_le_natAbs a d
  omega
 refine ah.intro ab ac Tryz.func275 rfl (by decide) ?_;(conv=>whnf)
 refine nK (by omega) (by omega) ?_
 conv=>whnf
 refine nI ?_
 conv=>whnf
 refine ae ?_ ?_<;>(intro h;conv=>whnf)
 ·refine aI ?_
  conv=>whnf
  exact⟨x8 (by unfold Ao;rw[if_pos h]),rfl⟩
 ·exact⟨x8 (by unfold Ao;rw[if_neg h]),rfl⟩
theorem Nq (n:Nat) (x:dW) (hn:n<=1000) (hv:0<=x.var/\x.var<n):ah Tryz.prog 224 [.int .i64 n, .agg (aK x), .bool true] (fun u=>u= .agg (aw (gi n x.var x.at_))):=by
 refine ah.intro ab ac Tryz.func224 rfl (by decide) ?_;(conv=>whnf)
 refine au rfl ?_
 conv=>whnf
 refine x7 0 al 0 rfl (by dsimp only;omega) ?_
 rw[tN]
 conv=>whnf
 refine nI ?_
 conv=>whnf
 refine ak (-1) rfl ?_
 conv=>whnf
 exact⟨rfl,rfl⟩
theorem Nr (n:Nat) (x:dW) (hn:n<=1000) (hv:0<=x.var/\x.var<n) (ha:0<=x.at_/\x.at_<=1048576):ah Tryz.prog 224 [.int .i64 n, .agg (aK x), .bool false] (fun u=>u= .agg (aw (gj n x.var (x.at_+1)))):=by
 refine ah.intro ab ac Tryz.func224 rfl (by decide) ?_;(conv=>whnf)
 refine au rfl ?_
 conv=>whnf
 refine x7 0 al 0 rfl (by dsimp only;omega) ?_
 rw[tN]
 conv=>whnf
 refine nI ?_
 conv=>whnf
 refine ak 1 rfl ?_
 conv=>whnf
 refine aI ?_
 conv=>whnf
 refine aI ?_
 conv=>whnf
 refine⟨?_,rfl⟩
 unfold gj aw
 rw[show -(x.at_+1)=0-x.at_-1 by omega]
 rfl
def pU (rows:List aV):List (Nat×bf):=[(202, .row 161 ar aw rows)]
def Ns (n:Nat) (rows:List aV) (c:List Int) (k:Int):List (Nat×bf):=
 [(202, .row 161 ar aw rows),(6, .box 161 [.nilsl, .int .i64 0]),(8, .box 161 [.row 35 n 1, .int .i64 k]),(35, .row 3 0 al c)]
theorem Ky (n:Nat) (rows:List aV) (d:kR) (hn:n<=96) (hr:kC n rows) (hl:rows.length<=10000000) (hd:MQ d):
  aj Tryz.prog 222 [.int .i64 n, .row 202 rows.length 2, .agg (t3 d)] (ag.ofL (pU rows)) (fun u M=>MS n rows d u/\M=ag.ofL (pU rows)):=by
 have hd1:=hd.1
 have hd2:=hd.2
 refine aj.renorm 400 (R:=fun u M=>ES n rows d u/\bG (lV (pU rows)) 400 M (pU rows)) ?_ ?_
 case refine_2=>
  rintro u M' ⟨hu|⟨hb,rfl⟩,hM⟩
  ·rcases hu with ⟨hb,rfl⟩|⟨hb,r,rfl⟩
   ·exact⟨_,_, .tup [.agg (aw (j0 n rows d)), .bool true],rfl,hM,⟨⟨rfl,rfl,trivial⟩,rfl,trivial⟩, .inl ⟨hb,rfl⟩,rfl⟩
   ·exact⟨_,_, .tup [.agg (aw r), .bool false],rfl,hM,⟨⟨rfl,rfl,trivial⟩,rfl,trivial⟩, .inr ⟨hb,r,rfl⟩,rfl⟩
  ·exact⟨_,_, .tup [.agg (aw ar), .bool false],rfl,hM,⟨⟨rfl,rfl,trivial⟩,rfl,trivial⟩, .inr ⟨hb,ar,rfl⟩,rfl⟩
 refine aj.introL ab ac (pU rows) Tryz.func222 rfl (by decide) ?_
 conv=>whnf
 refine au rfl ?_
 conv=>whnf
 have hno:∀{M:ag},¬xv n rows d->bG (lV (pU rows)) 400 M (pU rows)->ES n rows d (.tup [.agg [.nilsl, .int .i64 0], .bool false])/\bG (lV (pU rows)) 400 M (pU rows):=fun h h'=>⟨.inr ⟨h,rfl⟩,h'⟩
 refine ae ?_ ?_<;>(intro h1;conv=>whnf)
 ·exact hno (fun h=>h1 (by have:=h.1.1;omega)) (aa)
 refine dC (eg (d.src.length:Int) 1 64) (fun _=>?_) (fun _=>?_)<;>(conv=>whnf)
 case refine_2=>rename_i h2;exact hno (fun h=>h2 (by have:=h.1.2.1;omega)) (aa)
 rename_i h2
 refine dC (eg d.div 1 68719476736) (fun _=>?_) (fun _=>?_)<;>(conv=>whnf)
 case refine_2=>rename_i h3;exact hno (fun h=>h3 h.1.2.2) (aa)
 rename_i h3
 have hed:BG d:=⟨by omega,by omega,by omega⟩
 refine x7 0 al 0 rfl (by dsimp only;omega) ?_
 rw[tN]
 conv=>whnf
 refine aJ.loopF ab ac (fun k:Nat=>k<=d.src.length/\∀i,i<k->mP n rows.length d i) (fun k=>[(9, .int .i64 (k:Int))]) (fun k=>Ns n rows (fi n rows d k) (nG rows d k)) (fun k=>d.src.length-k) 0 ⟨Nat.zero_le _,fun j hj=>absurd hj (Nat.not_lt_zero _)⟩ ?_;conv=>whnf
 refine⟨sI,?_⟩
 rintro k ⟨hk,ha⟩
 have bC:=G' hr k ha
 have bK:=Ha hr k ha
 have lC:=j5 n rows d k
 conv=>whnf
 refine ae ?_ ?_<;>(intro g1;conv=>whnf)
 ·refine nI ?_
  rw[tN]
  conv=>whnf
  refine aI ?_
  conv=>whnf
  refine aI ?_
  conv=>whnf
  refine dC (eg (d.src.getD k 0) (0-(n:Int)) ((rows.length:Int)-1)) (fun _=>?_) (fun _=>?_)<;>(conv=>whnf)
  case refine_2=>rename_i g2;exact hno (fun h=>g2 (by have:=h.2.1 k (by omega);unfold mP at this;omega)) (aa)
  rename_i g2
  refine nI ?_
  rw[tN]
  conv=>whnf
  refine dC (eg (d.mult.getD k 0) 1 65536) (fun _=>?_) (fun _=>?_)<;>(conv=>whnf)
  case refine_2=>rename_i g3;exact hno (fun h=>g3 (by have:=h.2.1 k (by omega);unfold mP at this;omega)) (aa)
  rename_i g3
  have ht:mP n rows.length d k:=⟨by omega,by omega⟩
  have ha':∀i,i<k+1->mP n rows.length d i:=fun i hi=>by
   by_cases e:i=k
   ·subst e;exact ht
   ·exact ha i (by omega)
  have bm:1<=d.mult.getD k 0/\d.mult.getD k 0<=65536:=ht.2
  refine nI ?_
  rw[tN]
  conv=>whnf
  by_cases g6:d.src.getD k 0<0
  ·refine cO g6 ?_
   conv=>whnf
   have bi:=bC (-1-d.src.getD k 0).toNat
   have h64:(k:Int)<64:=by have:=hed.2.1;omega
   first|refine dI ?_|refine eI (by decide+kernel) ?_
   conv=>whnf
   refine nI ?_
   rw[tN]
   conv=>whnf
   refine aI ?_
   conv=>whnf
   refine nI ?_
   conv=>whnf
   refine nI ?_
   rw[tN]
   conv=>whnf
   refine aI ?_
   conv=>whnf
   refine nI ?_
   conv=>whnf
   refine ak _ rfl ?_
   conv=>whnf
   repeat' ((first|refine nI ?_|refine aI ?_|refine uI ?_|refine vI ?_|refine dI ?_|refine dR ?_|refine dP ?_|refine au rfl ?_|refine pI _ rfl ?_|refine ak _ rfl ?_|refine tI ?_|refine fI ?_|refine ae (fun _=>?_) (fun _=>?_))<;>conv=>whnf)
   refine⟨k+1,?_,⟨by omega,ha'⟩,by dsimp only;omega⟩
   dsimp only
   rw[fi,if_pos g6,nG,if_pos g6]
   exact sI
  ·refine cX g6 ?_
   conv=>whnf
   refine nI ?_
   rw[tN]
   conv=>whnf
   refine nI ?_
   conv=>whnf
   have hw:=hr (d.src.getD k 0).toNat (by omega)
   have h64:(k:Int)<64:=by have:=hed.2.1;omega
   refine aJ.loopF ab ac (fun j:Nat=>j<=n) (fun j=>[(11, .int .i64 (j:Int))]) (fun j=>(10, .box 161 (aw (rows.getD (d.src.getD k 0).toNat ar)))::Ns n rows (cW n (fi n rows d k) (fun i=>(fi n rows d k).getD i 0+d.mult.getD k 0*(rows.getD (d.src.getD k 0).toNat ar).coef.getD i 0) j) (nG rows d k)) (fun j=>n-j) 0 (Nat.zero_le _) ?_;conv=>whnf
   refine⟨?_,?_⟩
   ·show aH _ _ _ _ _
    rw[gc _ lC]
    exact sI
   rintro j hj
   conv=>whnf
   refine ae ?_ ?_<;>(intro g7;conv=>whnf)
   ·have hjn:j<n:=by omega
    have lM:=dU n (fi n rows d k) (fun i=>(fi n rows d k).getD i 0+d.mult.getD k 0*(rows.getD (d.src.getD k 0).toNat ar).coef.getD i 0) j
    have bj:=bC j
    have cj:ia ((rows.getD (d.src.getD k 0).toNat ar).coef.getD j 0):=hw.2.1 j (by omega)
    have mj:=qE cj bm
    first|refine dI ?_|refine eI (by decide+kernel) ?_
    conv=>whnf
    refine nI ?_
    rw[tN]
    conv=>whnf
    rw[gG hjn (Nat.lt_irrefl _)]
    refine nI ?_
    rw[tN]
    conv=>whnf
    refine nI ?_
    rw[tN]
    conv=>whnf
    refine aI ?_
    conv=>whnf
    refine aI ?_
    conv=>whnf
    refine nI ?_
    conv=>whnf
    refine ak _ rfl ?_
    conv=>whnf
    repeat' ((first|refine nI ?_|refine aI ?_|refine uI ?_|refine vI ?_|refine dI ?_|refine dR ?_|refine dP ?_|refine au rfl ?_|refine pI _ rfl ?_|refine ak _ rfl ?_|refine tI ?_|refine fI ?_|refine ae (fun _=>?_) (fun _=>?_))<;>conv=>whnf)
    refine⟨j+1,?_,by omega,by dsimp only;omega⟩
    dsimp only
    rw[<-j9 hjn]
    exact sI
   ·obtain rfl:j=n:=by omega
    have cK:=qE hw.2.2 bm
    first|refine dI ?_|refine eI (by decide+kernel) ?_
    conv=>whnf
    refine nI ?_
    rw[tN]
    conv=>whnf
    refine aI ?_
    conv=>whnf
    refine aI ?_
    conv=>whnf
    repeat' ((first|refine nI ?_|refine aI ?_|refine uI ?_|refine vI ?_|refine dI ?_|refine dR ?_|refine dP ?_|refine au rfl ?_|refine pI _ rfl ?_|refine ak _ rfl ?_|refine tI ?_|refine fI ?_|refine ae (fun _=>?_) (fun _=>?_))<;>conv=>whnf)
    refine⟨k+1,?_,⟨by omega,ha'⟩,by dsimp only;omega⟩
    dsimp only
    rw[fi,if_neg g6,nG,if_neg g6,<-iH j (fi j rows d k)]
    exact sI
 ·obtain rfl:k=d.src.length:=by omega
  have h64:(d.src.length:Int)<=64:=by have:=hed.2.1;omega
  have hdv:1<=d.div/\d.div<=68719476736:=hed.2.2
  refine aJ.loopF ab ac (fun j:Nat=>j<=n/\∀i,i<j->((fi n rows d d.src.length).getD i 0).tmod d.div=0) (fun j=>[(12, .int .i64 (j:Int))]) (fun j=>Ns n rows (cW n (fi n rows d d.src.length) (fun i=>((fi n rows d d.src.length).getD i 0).tdiv d.div) j) (nG rows d d.src.length)) (fun j=>n-j) 0 ⟨Nat.zero_le _,fun j hj=>absurd hj (Nat.not_lt_zero _)⟩ ?_;conv=>whnf
  refine⟨?_,?_⟩
  ·show aH _ _ _ _ _
   rw[gc _ lC]
   exact sI
  rintro j ⟨hj,hm⟩
  have lM:=dU n (fi n rows d d.src.length) (fun i=>((fi n rows d d.src.length).getD i 0).tdiv d.div) j
  conv=>whnf
  refine ae ?_ ?_<;>(intro g7;conv=>whnf)
  ·have hjn:j<n:=by omega
   have bj:=bC j
   refine dI ?_
   conv=>whnf
   refine nI ?_
   rw[tN]
   conv=>whnf
   rw[gG hjn (Nat.lt_irrefl _)]
   refine nI ?_
   conv=>whnf
   refine ae ?_ ?_<;>(intro g8;conv=>whnf)
   ·exact hno (fun h=>g8 (h.2.2.1 j hjn)) (aa)
   have qj:=BN ((fi n rows d d.src.length).getD j 0) d.div (m:=4503599627370496*(d.src.length:Int)) (by omega)
   first|refine dI ?_|refine eI (by decide+kernel) ?_
   conv=>whnf
   refine nI ?_
   rw[tN]
   conv=>whnf
   rw[gG hjn (Nat.lt_irrefl _)]
   refine nK (by omega) (by omega) ?_
   conv=>whnf
   refine nI ?_
   conv=>whnf
   refine ak _ rfl ?_
   conv=>whnf
   repeat' ((first|refine nI ?_|refine aI ?_|refine uI ?_|refine vI ?_|refine dI ?_|refine dR ?_|refine dP ?_|refine au rfl ?_|refine pI _ rfl ?_|refine ak _ rfl ?_|refine tI ?_|refine fI ?_|refine ae (fun _=>?_) (fun _=>?_))<;>conv=>whnf)
   refine⟨j+1,?_,⟨by omega,fun i hi=>?_⟩,by dsimp only;omega⟩
   ·dsimp only
    rw[<-j9 hjn]
    exact sI
   ·by_cases e:i=j
    ·subst e;exact Classical.not_not.1 g8
    ·exact hm i (by omega)
  ·obtain rfl:j=n:=by omega
   have bK':=bK
   refine aj.of_pure (n:=5) (O8 (nG rows d d.src.length) d.div (by omega) hdv.1) rfl ?_
   rintro _ rfl
   conv=>whnf
   have hR:(⟨cW j (fi j rows d d.src.length) (fun i=>((fi j rows d d.src.length).getD i 0).tdiv d.div) j,Ao (nG rows d d.src.length) d.div⟩:aV)=j0 j rows d:=by
    rw[iH,np (fun a=>a.tdiv d.div) lC]
    rfl
   have fin:∀{M:ag},bG (lV (pU rows)) 400 M (pU rows)->ES j rows d (.tup [.agg (aw ⟨cW j (fi j rows d d.src.length) (fun i=>((fi j rows d d.src.length).getD i 0).tdiv d.div) j,Ao (nG rows d d.src.length) d.div⟩), .bool (decide (mH ⟨cW j (fi j rows d d.src.length) (fun i=>((fi j rows d d.src.length).getD i 0).tdiv d.div) j,Ao (nG rows d d.src.length) d.div⟩))])/\bG (lV (pU rows)) 400 M (pU rows):=by
    intro M hM
    refine⟨.inl ?_,hM⟩
    rw[hR]
    by_cases hs:mH (j0 j rows d)
    ·rw[decide_eq_true hs]
     exact .inl ⟨⟨hed,ha,hm,hs⟩,rfl⟩
    ·rw[decide_eq_false hs]
     exact .inr ⟨fun h=>hs h.2.2.2,_,rfl⟩
   refine nU ?_
   conv=>whnf
   repeat' first
    |exact True.intro
    |exact fin (aa)
    |(refine And.intro ?_ ?_<;>conv=>whnf)
    |((refine aj.borrow (n:=5) (Hf ⟨cW j (fi j rows d d.src.length) (fun i=>((fi j rows d d.src.length).getD i 0).tdiv d.div) j,Ao (nG rows d d.src.length) d.div⟩ (by dsimp only;omega)) rfl (by rintro _ rfl;rfl) ?_;rintro _ rfl;conv=>whnf))
def Nt (n:Nat) (nodes:List dW):Prop:=(∀i,i<nodes.length->lB n nodes.length i (nodes.getD i an))/\∀i,i<nodes.length->0<i->gh nodes i nodes.length=1
instance (n:Nat) (nodes:List dW):Decidable (Nt n nodes):=inferInstanceAs (Decidable (_/\_))
theorem Fa (n:Nat) (nodes:List dW) (hn:n<=96) (h0:1<=nodes.length) (h4:nodes.length<=400):ah Tryz.prog 139 [.int .i64 n, .sl an aK nodes] (fun u=>u= .bool (decide (Nt n nodes))):=by
 refine ah.intro ab ac Tryz.func139 rfl (by decide) ?_;(conv=>whnf)
 refine x7 0 al 0 rfl (by dsimp only;omega) ?_
 rw[tN,<-v8]
 conv=>whnf
 refine aJ.loopF ab ac (fun k:Nat=>k<=nodes.length/\∀i,i<k->lB n nodes.length i (nodes.getD i an)) (fun k=>[(6, .int .i64 (k:Int))]) (fun k=>[(11, .row 3 0 al (gP nodes k))]) (fun k=>nodes.length-k) 0 ⟨Nat.zero_le _,fun j hj=>absurd hj (Nat.not_lt_zero _)⟩ ?_;conv=>whnf
 refine⟨sI,?_⟩
 rintro k ⟨hk,ha⟩
 conv=>whnf
 refine ae ?_ ?_<;>(intro h1;conv=>whnf)
 ·have hlt:k<nodes.length:=by omega
  refine nI ?_
  rw[tN]
  conv=>whnf
  have no:¬lB n nodes.length k (nodes.getD k an)->¬Nt n nodes:=fun h hh=>h (hh.1 k hlt)
  refine aI ?_
  conv=>whnf
  refine dC (eg (nodes.getD k an).var (-1) ((n:Int)-1)) (fun _=>?_) (fun _=>?_)<;>(conv=>whnf)
  case refine_2=>rename_i h2;exact⟨aA (no (by unfold lB;omega)),rfl⟩
  rename_i h2
  refine ae ?_ ?_<;>(intro h3;conv=>whnf)
  ·repeat' ((first|refine nI ?_|refine aI ?_|refine uI ?_|refine vI ?_|refine dI ?_|refine dR ?_|refine dP ?_|refine au rfl ?_|refine pI _ rfl ?_|refine ak _ rfl ?_|refine tI ?_|refine fI ?_|refine ae (fun _=>?_) (fun _=>?_))<;>conv=>whnf)
   refine⟨k+1,?_,⟨by omega,fun i hi=>?_⟩,by dsimp only;omega⟩
   ·dsimp only
    rw[v9 h3]
    exact sI
   ·by_cases e:i=k
    ·subst e;exact .inl h3
    ·exact ha i (by omega)
  refine dC (eg (nodes.getD k an).at_ 0 1048576) (fun _=>?_) (fun _=>?_)<;>(conv=>whnf)
  case refine_2=>rename_i h5;exact⟨aA (no (by unfold lB;omega)),rfl⟩
  rename_i h5
  refine aI ?_
  conv=>whnf
  refine aI ?_
  conv=>whnf
  refine dC (eg (nodes.getD k an).left ((k:Int)+1) ((nodes.length:Int)-1)) (fun _=>?_) (fun _=>?_)<;>(conv=>whnf)
  case refine_2=>rename_i h6;exact⟨aA (no (by unfold lB;omega)),rfl⟩
  rename_i h6
  refine aI ?_
  conv=>whnf
  refine aI ?_
  conv=>whnf
  refine dC (eg (nodes.getD k an).right ((k:Int)+1) ((nodes.length:Int)-1)) (fun _=>?_) (fun _=>?_)<;>(conv=>whnf)
  case refine_2=>rename_i h7;exact⟨aA (no (by unfold lB;omega)),rfl⟩
  rename_i h7
  have lP:=gH nodes k
  have lQ:=ui (gP nodes k) (nodes.getD k an).left
  have b1:=xw nodes ((nodes.getD k an).left.toNat:Nat) k
  have b2:=xw nodes ((nodes.getD k an).right.toNat:Nat) k
  have g1:=iI (nodes:=nodes) (k:=k) (i:=(nodes.getD k an).left.toNat) (by omega)
  have g2:=sc (l:=gP nodes k) (c:=(nodes.getD k an).left) (i:=(nodes.getD k an).right.toNat) (by omega) (by omega)
  rw[iI (by omega)] at g2
  have g3:0<=(ov (gP nodes k) (nodes.getD k an).left).getD (nodes.getD k an).right.toNat 0/\(ov (gP nodes k) (nodes.getD k an).left).getD (nodes.getD k an).right.toNat 0<=2*(k:Int)+1:=by
   rw[g2];split<;>omega
  refine nI ?_
  conv=>whnf
  refine aI ?_
  conv=>whnf
  refine nI ?_
  conv=>whnf
  refine ak _ rfl ?_
  conv=>whnf
  refine nI ?_
  conv=>whnf
  refine nK trivial (by unfold ov at g3;omega) ?_
  conv=>whnf
  refine nI ?_
  conv=>whnf
  refine ak _ rfl ?_
  conv=>whnf
  repeat' ((first|refine nI ?_|refine aI ?_|refine uI ?_|refine vI ?_|refine dI ?_|refine dR ?_|refine dP ?_|refine au rfl ?_|refine pI _ rfl ?_|refine ak _ rfl ?_|refine tI ?_|refine fI ?_|refine ae (fun _=>?_) (fun _=>?_))<;>conv=>whnf)
  refine⟨k+1,?_,⟨by omega,fun i hi=>?_⟩,by dsimp only;omega⟩
  ·dsimp only
   rw[<-zN h3 (by omega) (by omega)]
   exact sI
  ·by_cases e:i=k
   ·subst e;exact .inr ⟨by omega,by omega,by omega,by omega⟩
   ·exact ha i (by omega)
 ·obtain rfl:k=nodes.length:=by omega
  have lP:=gH nodes nodes.length
  refine aJ.loopF ab ac (fun j:Nat=>(1<=j/\j<=nodes.length)/\∀i,i<j->0<i->gh nodes i nodes.length=1) (fun j=>[(8, .int .i64 (j:Int))]) (fun j=>[(11, .row 3 0 al (gP nodes nodes.length))]) (fun j=>nodes.length-j) 1 ⟨⟨Nat.le_refl _,h0⟩,fun j hj h0=>absurd hj (by omega)⟩ ?_;conv=>whnf
  refine⟨sI,?_⟩
  rintro j ⟨⟨hj1,hj⟩,hc⟩
  conv=>whnf
  refine ae ?_ ?_<;>(intro h2;conv=>whnf)
  ·refine nI ?_
   rw[tN]
   conv=>whnf
   rw[iI (show j<nodes.length by omega)]
   conv=>whnf
   refine ae ?_ ?_<;>(intro h4;conv=>whnf)
   ·exact⟨aA (fun hh=>h4 (hh.2 j (by omega) (by omega))),rfl⟩
   ·repeat' ((first|refine nI ?_|refine aI ?_|refine uI ?_|refine vI ?_|refine dI ?_|refine dR ?_|refine dP ?_|refine au rfl ?_|refine pI _ rfl ?_|refine ak _ rfl ?_|refine tI ?_|refine fI ?_|refine ae (fun _=>?_) (fun _=>?_))<;>conv=>whnf)
    refine⟨j+1,sI,⟨by omega,fun i hi h0=>?_⟩,by dsimp only;omega⟩
    by_cases e:i=j
    ·subst e;exact Classical.not_not.1 h4
    ·exact hc i (by omega) h0
  ·obtain rfl:j=nodes.length:=by omega
   exact⟨bE ⟨ha,hc⟩,rfl⟩
theorem Lh {A1 A2 A3 A4 A5 A6 B:Prop} (k:A1->A2->A3->A4->A5->A6->B) (h1:A1) (h2:A2) (h3:A3) (h4:A4) (h5:A5) (h6:A6):B:=k h1 h2 h3 h4 h5 h6
def O9 (n:Nat) (nodes:List dW) (i:Nat) (a:List aV):List (Nat×bf):=[(1000, .row 161 ar aw a),(9, .box 217 (aK (nodes.getD i an)))]
theorem xX (n:Nat) (nodes:List dW) (hn:n<=96) (ho:HF nodes) (hw:BH n nodes):∀(m i:Nat) (rows:List aV),i<nodes.length->nodes.length-i<=m->kC n rows->rows.length+401*(nodes.length-i)<=500000->
  ah Tryz.prog 140 [.int .i64 n, .sl an aK nodes, .int .i64 (i:Int), .sl ar aw rows] (fun u=>u= .bool (jL n nodes m i rows))
 |0,i,rows,hi,hm,_,_=>by omega
 |m+1,i,rows,hi,hm,hr,hl=>by
  have hlen:=hw.1
  have hlin:(nodes.getD i an).lines.length<=400:=Nat.le_trans (xx nodes hi) hw.2.2.2
  have hok:=(ho.2 i hi).2
  rw[jL]
  refine ah.intro ab ac Tryz.func140 rfl (by decide) ?_;(conv=>whnf)
  refine nI ?_
  rw[tN]
  conv=>whnf
  refine bp ar aw [] rfl ?_
  conv=>whnf
  refine bq rows rfl (by simp only[List.length_nil];omega) ?_
  conv=>whnf
  refine aJ.loopF ab ac (fun x:Nat×List aV=>x.1<=(nodes.getD i an).lines.length/\oH n rows (nodes.getD i an).lines x.1=some x.2) (fun x=>[(21, .top),(23, .top),(11, .int .i64 (x.1:Int)),(10, .row 1000 x.2.length 2)]) (fun x=>O9 n nodes i x.2) (fun x=>(nodes.getD i an).lines.length-x.1) (0,rows) ⟨Nat.zero_le _,rfl⟩ ?_;conv=>whnf
  refine⟨aH.by_ [(1000, .old 23),(9, .old 9)] _ 400 rfl (aa) (aa),?_⟩
  rintro⟨k,a⟩ ⟨hk,ha⟩
  dsimp only at hk ha
  obtain⟨hra,hla⟩:=pD hr ha
  conv=>whnf
  refine ae ?_ ?_<;>(intro h1;conv=>whnf)
  ·have hlt:k<(nodes.getD i an).lines.length:=by omega
   refine nI ?_
   rw[tN]
   conv=>whnf
   refine aj.call [(202, .old 1000)] (pU a) 400 rfl (aa) (aa) (Ky n a ((nodes.getD i an).lines.getD k lA) hn hra (by omega) (hok k hlt)) ?_
   rintro u M' ⟨hu,rfl⟩
   rcases hu with ⟨hb,rfl⟩|⟨hb,r,rfl⟩
   ·refine⟨[(1000, .old 202)],[(1000, .row 161 ar aw a)], .tup [.agg (aw (j0 n a ((nodes.getD i an).lines.getD k lA))), .bool true],rfl,(aa),(aa),?_⟩
    conv=>whnf
    refine bp ar aw [j0 n a ((nodes.getD i an).lines.getD k lA)] rfl ?_
    conv=>whnf
    refine bq [j0 n a ((nodes.getD i an).lines.getD k lA)] rfl lI ?_
    conv=>whnf
    repeat' ((first|refine nI ?_|refine aI ?_|refine uI ?_|refine vI ?_|refine dI ?_|refine dR ?_|refine dP ?_|refine au rfl ?_|refine pI _ rfl ?_|refine ak _ rfl ?_|refine tI ?_|refine fI ?_|refine ae (fun _=>?_) (fun _=>?_))<;>conv=>whnf)
    refine⟨(k+1,a++[j0 n a ((nodes.getD i an).lines.getD k lA)]),?_,⟨by dsimp only;omega,?_⟩,by dsimp only;omega⟩
    ·exact aH.by_ [(1000, .old 47),(9, .old 9)] _ 400 rfl (aa) (aa)
    ·dsimp only
     rw[oH,ha]
     dsimp only
     rw[if_pos hb]
   ·refine⟨[(1000, .old 202)],[(1000, .row 161 ar aw a)], .tup [.agg (aw r), .bool false],rfl,(aa),(aa),?_⟩
    conv=>whnf
    have hno:oH n rows (nodes.getD i an).lines (nodes.getD i an).lines.length=none:=by
     refine zQ (k:=k+1) ?_ _ (by omega)
     rw[oH,ha]
     dsimp only
     rw[if_neg hb]
    rw[hno]
    exact⟨rfl,rfl⟩
  ·obtain rfl:k=(nodes.getD i an).lines.length:=by omega
   rw[ha]
   dsimp only
   have hv:=hw.2.1 i hi
   unfold lB at hv
   by_cases h2:(nodes.getD i an).var=-1
   ·refine cO h2 ?_
    rw[if_pos h2]
    conv=>whnf
    refine aJ.loopF ab ac (fun j:Nat=>j<=a.length/\∀y,y<j->¬t4 (a.getD y ar)) (fun j=>[(14, .int .i64 (j:Int))]) (fun j=>O9 n nodes i a) (fun j=>a.length-j) 0 ⟨Nat.zero_le _,fun j hj=>absurd hj (Nat.not_lt_zero _)⟩ ?_;conv=>whnf
    refine⟨sI,?_⟩
    rintro j ⟨hj,hc⟩
    conv=>whnf
    refine ae ?_ ?_<;>(intro h3;conv=>whnf)
    ·refine nI ?_
     rw[tN]
     conv=>whnf
     have hwj:=hra j (by omega)
     refine dC (uw (a.getD j ar) (by omega)) (fun _=>?_) (fun _=>?_)<;>(conv=>whnf)
     ·rename_i h4
      exact⟨bE ⟨j,by omega,h4⟩,rfl⟩
     ·rename_i h4
      repeat' ((first|refine nI ?_|refine aI ?_|refine uI ?_|refine vI ?_|refine dI ?_|refine dR ?_|refine dP ?_|refine au rfl ?_|refine pI _ rfl ?_|refine ak _ rfl ?_|refine tI ?_|refine fI ?_|refine ae (fun _=>?_) (fun _=>?_))<;>conv=>whnf)
      refine⟨j+1,sI,⟨by omega,fun y hy=>?_⟩,by dsimp only;omega⟩
      by_cases e:y=j
      ·subst e;exact h4
      ·exact hc y (by omega)
    ·exact⟨aA (fun⟨y,h4,h5⟩=>hc y (by omega) h5),rfl⟩
   ·refine cX h2 ?_
    rw[if_neg h2]
    conv=>whnf
    obtain⟨v1,v2,v3,v4⟩:=hv.resolve_left h2
    have hL:=xX n nodes hn ho hw m (nodes.getD i an).left.toNat (a++[gi n (nodes.getD i an).var (nodes.getD i an).at_]) (by omega) (by omega) (ip hra (j6 (.inr rfl) (by unfold ia;omega))) (by rw[List.length_append];simp only[List.length_cons,List.length_nil];omega)
    have hR:=xX n nodes hn ho hw m (nodes.getD i an).right.toNat (a++[gj n (nodes.getD i an).var ((nodes.getD i an).at_+1)]) (by omega) (by omega) (ip hra (j6 (.inl rfl) (by unfold ia;omega))) (by rw[List.length_append];simp only[List.length_cons,List.length_nil];omega)
    rw[Int.toNat_of_nonneg (by omega)] at hL hR
    generalize jL n nodes m (nodes.getD i an).left.toNat (a++[gi n (nodes.getD i an).var (nodes.getD i an).at_])=bL at hL⊢
    generalize jL n nodes m (nodes.getD i an).right.toNat (a++[gj n (nodes.getD i an).var ((nodes.getD i an).at_+1)])=bR at hR⊢
    have sL:=Nq n (nodes.getD i an) (by omega) v1
    have sR:=Nr n (nodes.getD i an) (by omega) v1 v2
    apply Lh
    case k=>
     intro o1 o2 o3 o4 o5 o6
     refine nU ?_
     conv=>whnf
     repeat' first
      |exact True.intro
      |(refine And.intro ?_ ?_<;>conv=>whnf)
      |(clear o1 o2 o3 o4 o5 o6;omega)
      |(refine oP sL ?_;conv=>whnf)
      |(refine oC sL ?_;conv=>whnf)
      |(refine bp ar aw [] rfl ?_;conv=>whnf)
      |(refine bp ar aw [gi n (nodes.getD i an).var (nodes.getD i an).at_] rfl ?_;conv=>whnf)
      |(refine bU ?_;conv=>whnf)
      |(refine bq a rfl (by clear o1 o2 o3 o4 o5 o6;simp only[List.length_nil];omega) ?_;conv=>whnf)
      |(refine bq [gi n (nodes.getD i an).var (nodes.getD i an).at_] rfl (by clear o1 o2 o3 o4 o5 o6;simp only[List.nil_append,List.length_cons,List.length_nil];omega) ?_;conv=>whnf)
      |with_reducible assumption
      |fail
    all_goals try first
     |exact True.intro
     |exact True
    apply Lh
    case k=>
     intro o1 o2 o3 o4 o5 o6
     refine nU ?_
     conv=>whnf
     repeat' first
      |exact True.intro
      |(refine And.intro ?_ ?_<;>conv=>whnf)
      |(clear o1 o2 o3 o4 o5 o6;omega)
      |(refine oP sR ?_;conv=>whnf)
      |(refine oC sR ?_;conv=>whnf)
      |(refine bp ar aw [] rfl ?_;conv=>whnf)
      |(refine bp ar aw [gj n (nodes.getD i an).var ((nodes.getD i an).at_+1)] rfl ?_;conv=>whnf)
      |(refine bU ?_;conv=>whnf)
      |(refine bq a rfl (by clear o1 o2 o3 o4 o5 o6;simp only[List.length_nil];omega) ?_;conv=>whnf)
      |(refine bq [gj n (nodes.getD i an).var ((nodes.getD i an).at_+1)] rfl (by clear o1 o2 o3 o4 o5 o6;simp only[List.nil_append,List.length_cons,List.length_nil];omega) ?_;conv=>whnf)
      |with_reducible assumption
      |fail
    all_goals try first
     |exact True.intro
     |exact True
    ((refine aj.borrow (n:=5) (hL) rfl (by rintro _ rfl;rfl) ?_;rintro _ rfl;conv=>whnf))
    cases bL with
    |false=>
     conv=>whnf
     exact⟨rfl,rfl⟩
    |true=>
     conv=>whnf
     ((refine aj.borrow (n:=5) (hR) rfl (by rintro _ rfl;rfl) ?_;rintro _ rfl;conv=>whnf))
     exact⟨rfl,rfl⟩
theorem qT (s:dF) (nodes:List dW) (hs:NE s) (ho:HF nodes):ah Tryz.prog 60 [.agg (mG s), .agg [.sl an aK nodes]] (fun u=>u= .bool (decide (qG s nodes))):=by
 have ho1:=ho.1
 refine ah.intro ab ac Tryz.func60 rfl (by decide) ?_;(conv=>whnf)
 refine au rfl ?_
 conv=>whnf
 refine au rfl ?_
 conv=>whnf
 (refine oP (EK s hs) ?_;conv=>whnf)
 refine ae ?_ ?_<;>(intro h;conv=>whnf)
 ·exact⟨aA (fun hh=>h hh.1),rfl⟩
 have h0:eZ s=0:=Classical.not_not.1 h
 obtain⟨a1,a2,a3,a4⟩:=lw h0
 refine dC (eg (nodes.length:Int) 1 400) (fun _=>?_) (fun _=>?_)<;>(conv=>whnf)
 case refine_2=>rename_i h2;exact⟨aA (fun hh=>h2 (by have:=hh.2.1.1;omega)),rfl⟩
 rename_i h2
 refine aJ.loopF ab ac (fun k:Nat=>k<=nodes.length/\d7 nodes k<=400) (fun k=>[(6, .int .i64 (k:Int)),(5, .int .i64 (d7 nodes k:Int))]) (fun _=>[]) (fun k=>nodes.length-k) 0 ⟨Nat.zero_le _,by simp[d7]⟩ ?_;conv=>whnf
 refine⟨sI,?_⟩
 rintro k ⟨hk,hb⟩
 conv=>whnf
 refine ae ?_ ?_<;>(intro h1;conv=>whnf)
 ·have hlt:k<nodes.length:=by omega
  have hln:=(ho.2 k hlt).1
  have hlin:(d7 nodes (k+1):Int)=(d7 nodes k:Int)+((nodes.getD k an).lines.length:Int):=by rw[d7];push_cast;rfl
  have hmo:=qF nodes (show k+1<=nodes.length by omega)
  refine nI ?_
  rw[tN]
  conv=>whnf
  refine aI ?_
  conv=>whnf
  refine ae ?_ ?_<;>(intro h3;conv=>whnf)
  ·exact⟨aA (fun hh=>by have:=hh.2.1.2.2.2;omega),rfl⟩
  ·repeat' ((first|refine nI ?_|refine aI ?_|refine uI ?_|refine vI ?_|refine dI ?_|refine dR ?_|refine dP ?_|refine au rfl ?_|refine pI _ rfl ?_|refine ak _ rfl ?_|refine tI ?_|refine fI ?_|refine ae (fun _=>?_) (fun _=>?_))<;>conv=>whnf)
   refine⟨k+1,?_,⟨by omega,by omega⟩,by dsimp only;omega⟩
   dsimp only
   rw[hlin]
   exact sI
 ·obtain rfl:k=nodes.length:=by omega
  have ev:((s.vars.toNat:Nat):Int)=s.vars:=Int.toNat_of_nonneg a1.1
  have hch:=Fa s.vars.toNat nodes (by omega) (by omega) (by omega)
  rw[ev] at hch
  refine dC (hch) (fun _=>?_) (fun _=>?_)<;>(conv=>whnf)
  case refine_2=>rename_i h3;exact⟨aA (fun hh=>h3 ⟨hh.2.1.2.1,hh.2.1.2.2.1⟩),rfl⟩
  rename_i h3
  have hw:BH s.vars.toNat nodes:=⟨by omega,h3.1,h3.2,by omega⟩
  have hN:=xX s.vars.toNat nodes (by omega) ho hw nodes.length 0 s.rows (by omega) (by omega) (r8 h0) (by omega)
  rw[ev] at hN
  (refine oP (hN) ?_;conv=>whnf)
  refine⟨?_,rfl⟩
  refine NW ?_
  cases hc:jL s.vars.toNat nodes nodes.length 0 s.rows with
  |true=>exact(decide_eq_true (p:=qG s nodes) ⟨h0,hw,hc⟩).symm
  |false=>exact(decide_eq_false (p:=qG s nodes) fun h=>by have:=h.2.2;rw[hc] at this;cases this).symm
end Go.Proofs.YtekmminpfhacpaaGreatDoor
