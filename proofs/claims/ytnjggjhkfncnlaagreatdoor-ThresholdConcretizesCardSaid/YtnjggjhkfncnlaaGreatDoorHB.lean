import Derived.Test.YtnjggjhkfncnlaaGreatDoorX1
import Derived.Test.YtnjggjhkfncnlaaGreatDoorW1
import Derived.Test.YtnjggjhkfncnlaaGreatDoorHA
import Derived.Test.YtnjggjhkfncnlaaGreatDoorX0
set_option linter.unusedVariables false
set_option linter.unusedSimpArgs false
namespace Go.Proofs.YtnjggjhkfncnlaaGreatDoor
set_option maxRecDepth 100000
set_option maxHeartbeats 16000000
theorem DS (x:List Int) (hl:x.length<=140737488355328):ab Tryz.prog 109 [.sl 0 an x] (fun u=>u= .bool (decide (w9 x))):=by
 refine ab.intro ac ag Tryz.func109 rfl (by decide) ?_;(conv=>whnf)
 refine aH.loopF ac ag (fun k:Nat=>k<=x.length/\∀j,j<k->0<=x.getD j 0/\x.getD j 0<=1048576) (fun k=>[(3, .int .i64 (k:Int))]) (fun _=>[]) (fun k=>x.length-k) 0 ⟨Nat.zero_le _,fun j hj=>absurd hj (Nat.not_lt_zero _)⟩ ?_;conv=>whnf
 refine⟨sI,?_⟩
 rintro k ⟨hk,ha⟩
 conv=>whnf
 refine ah ?_ ?_<;>(intro h1;conv=>whnf)
 ·refine nI ?_
  rw[tN]
  conv=>whnf
  refine dC (mO (x.getD k 0) 0 1048576) (fun _=>?_) (fun _=>?_)<;>(conv=>whnf)
  ·rename_i h2
   repeat' ((first|refine nI ?_|refine aI ?_|refine dz trivial (by omega) ?_|refine dV trivial (by omega) ?_|refine dI ?_|refine dR ?_|refine dP ?_|refine al rfl ?_|refine pI _ rfl ?_|refine ap _ rfl ?_|refine tI ?_|refine fI ?_|refine ah (fun _=>?_) (fun _=>?_))<;>conv=>whnf)
   refine⟨k+1,sI,⟨by omega,fun j hj=>?_⟩,by dsimp only;omega⟩
   by_cases e:j=k
   ·subst e;exact h2
   ·exact ha j (by omega)
  ·rename_i h2
   exact⟨aq (fun h=>h2 (h k (by omega))),rfl⟩
 ·obtain rfl:k=x.length:=by omega
  exact⟨az ha,rfl⟩
theorem JO (r:cK) (x:List Int) (h2:w9 x) (h3:ou r) (hl:r.coef.length=x.length) (hn:x.length<=96):ab Tryz.prog 110 [.agg (bE r), .sl 0 an x] (fun u=>u= .int .i64 (qc r x)):=by
 refine ab.intro ac ag Tryz.func110 rfl (by decide) ?_;(conv=>whnf)
 refine al rfl ?_
 conv=>whnf
 refine aH.loopF ac ag (fun k:Nat=>k<=r.coef.length) (fun k=>[(6, .int .i64 (k:Int)),(5, .int .i64 (r.const+lR r.coef x k))]) (fun _=>[]) (fun k=>r.coef.length-k) 0 (Nat.zero_le _) ?_;conv=>whnf
 refine⟨?_,?_⟩
 ·show aL _ _ _ _ _
  rw[lR,Int.add_zero]
  exact sI
 rintro k hk
 have hc:=h3.2
 unfold nD at hc
 have hb:=xb h3.1 h2 (by omega) k (by omega)
 conv=>whnf
 refine ah ?_ ?_<;>(intro h1;conv=>whnf)
 ·have hm:=xa (h3.1 k (by omega)) (h2 k (by omega))
  refine dI ?_
  conv=>whnf
  refine nI ?_
  rw[tN]
  conv=>whnf
  refine nI ?_
  rw[tN]
  conv=>whnf
  refine aI ?_
  conv=>whnf
  refine aI ?_
  conv=>whnf
  repeat' ((first|refine nI ?_|refine aI ?_|refine dz trivial (by omega) ?_|refine dV trivial (by omega) ?_|refine dI ?_|refine dR ?_|refine dP ?_|refine al rfl ?_|refine pI _ rfl ?_|refine ap _ rfl ?_|refine tI ?_|refine fI ?_|refine ah (fun _=>?_) (fun _=>?_))<;>conv=>whnf)
  refine⟨k+1,?_,by omega,by dsimp only;omega⟩
  dsimp only
  rw[lR,<-Int.add_assoc]
  exact sI
 ·obtain rfl:k=r.coef.length:=by omega
  exact⟨rfl,rfl⟩
theorem xB (s:iq) (x:List Int) (hs:Jo s) (hx:x.length<=140737488355328):ab Tryz.prog 46 [.agg (qb s), .sl 0 an x] (fun u=>u= .bool (decide (vj s x))):=by
 refine ab.intro ac ag Tryz.func46 rfl (by decide) ?_;(conv=>whnf)
 refine al rfl ?_
 conv=>whnf
 (refine oP (z5 s hs) ?_;conv=>whnf)
 refine ah ?_ ?_<;>(intro h;conv=>whnf)
 ·exact⟨aq (fun hh=>h hh.1),rfl⟩
 have h0:iV s=0:=Classical.not_not.1 h
 obtain⟨a1,a2,a3,a4⟩:=te h0
 refine ah (fun h'=>?_) (fun h'=>?_)<;>conv=>whnf
 ·exact⟨aq (fun hh=>h' hh.2.1),rfl⟩
 have hl:(x.length:Int)=s.vars:=Classical.not_not.1 h'
 refine dC (DS x hx) (fun _=>?_) (fun _=>?_)<;>(conv=>whnf)
 case refine_2=>rename_i h2;exact⟨aq (fun hh=>h2 hh.2.2.1),rfl⟩
 rename_i h2
 refine aH.loopF ac ag (fun k:Nat=>k<=s.rows.length/\∀j,j<k->0<=qc (s.rows.getD j bz) x) (fun k=>[(5, .int .i64 (k:Int))]) (fun _=>[]) (fun k=>s.rows.length-k) 0 ⟨Nat.zero_le _,fun j hj=>absurd hj (Nat.not_lt_zero _)⟩ ?_;conv=>whnf
 refine⟨sI,?_⟩
 rintro k ⟨hk,ha⟩
 conv=>whnf
 refine ah ?_ ?_<;>(intro h1;conv=>whnf)
 ·refine nI ?_
  rw[tN]
  conv=>whnf
  have hw:=a2 k (by omega)
  (refine oP (JO (s.rows.getD k bz) x h2 (a4 k (by omega)) (by omega) (by omega)) ?_;conv=>whnf)
  refine ah ?_ ?_<;>(intro h3;conv=>whnf)
  ·exact⟨aq (fun hh=>by have:=hh.2.2.2 k (by omega);omega),rfl⟩
  repeat' ((first|refine nI ?_|refine aI ?_|refine dz trivial (by omega) ?_|refine dV trivial (by omega) ?_|refine dI ?_|refine dR ?_|refine dP ?_|refine al rfl ?_|refine pI _ rfl ?_|refine ap _ rfl ?_|refine tI ?_|refine fI ?_|refine ah (fun _=>?_) (fun _=>?_))<;>conv=>whnf)
  refine⟨k+1,sI,⟨by omega,fun j hj=>?_⟩,by dsimp only;omega⟩
  by_cases e:j=k
  ·subst e;omega
  ·exact ha j (by omega)
 ·obtain rfl:k=s.rows.length:=by omega
  exact⟨az ⟨h0,hl,h2,ha⟩,rfl⟩
theorem Ib (n:Nat) (hn:n<=8):ab Tryz.prog 215 [.int .u64 1, .int .u64 (n:Int)] (fun u=>u= .tup [.int .u64 0, .int .u64 (n:Int)]):=by
 obtain rfl|rfl|rfl|rfl|rfl|rfl|rfl|rfl|rfl:n=0\/n=1\/n=2\/n=3\/n=4\/n=5\/n=6\/n=7\/n=8:=by omega
 all_goals
  refine ab.intro ac ag Tryz.func215 rfl (by decide) ?_;(conv=>whnf)
  repeat' ((first|refine dz trivial (by decide+kernel) ?_|refine dV trivial (by decide+kernel) ?_|refine bI (by decide+kernel) ?_|fail)<;>conv=>whnf)
  exact⟨rfl,rfl⟩
theorem KC (n:Nat) (hn:n<=8):ab Tryz.prog 173 [.int .u64 1, .int .u64 (n:Int)] (fun u=>u= .tup [.int .u64 0, .int .u64 (n:Int)]):=by
 have h:=Ib n hn
 refine ab.intro ac ag Tryz.func173 rfl (by decide) ?_;(conv=>whnf)
 repeat' ((first|refine nI ?_|refine aI ?_|refine dz trivial (by omega) ?_|refine dV trivial (by omega) ?_|refine dI ?_|refine dR ?_|refine dP ?_|refine al rfl ?_|refine pI _ rfl ?_|refine ap _ rfl ?_|refine tI ?_|refine fI ?_|refine ah (fun _=>?_) (fun _=>?_))<;>conv=>whnf)
 (refine oP (h) ?_;conv=>whnf)
 repeat' ((first|refine nI ?_|refine aI ?_|refine dz trivial (by omega) ?_|refine dV trivial (by omega) ?_|refine dI ?_|refine dR ?_|refine dP ?_|refine al rfl ?_|refine pI _ rfl ?_|refine ap _ rfl ?_|refine tI ?_|refine fI ?_|refine ah (fun _=>?_) (fun _=>?_))<;>conv=>whnf)
 exact⟨rfl,rfl⟩
theorem FN (x:Int) {n m k:Nat} (h1:m+k<=n) (h2:k<=m):qH (List.replicate m x++List.replicate (n-m) 0) m 0 k=List.replicate (m+k) x++List.replicate (n-(m+k)) 0:=by
 unfold qH
 rw[List.drop_zero,List.take_append_of_le_length (by simp),List.take_of_length_le (by simp),List.take_append_of_le_length (by simpa using h2),List.take_replicate,Nat.min_eq_left h2,List.drop_append,List.length_replicate,List.drop_of_length_le (by simp),List.nil_append,List.drop_replicate,<-List.append_assoc,List.replicate_append_replicate]
 congr 2
 omega
theorem FO (x:Int) (n:Nat) (hn:n<=8):ab Tryz.prog 97 [.sl 0 an [x], .int .i64 (n:Int)] (fun u=>u= .sl 0 an (List.replicate n x)):=by
 have hM:=KC n hn
 refine ab.intro ac ag Tryz.func97 rfl (by decide) ?_;(conv=>whnf)
 refine fI ?_
 conv=>whnf
 refine dz trivial lI ?_
 conv=>whnf
 refine dz trivial (by omega) ?_
 conv=>whnf
 (refine oP (hM) ?_;conv=>whnf)
 refine fI ?_
 conv=>whnf
 refine fI ?_
 conv=>whnf
 refine aI ?_
 conv=>whnf
 refine xF 0 an 0 rfl (by dsimp only;omega) ?_
 rw[tN]
 conv=>whnf
 by_cases h0:n=0
 ·subst h0
  refine J2 rfl ?_
  conv=>whnf
  refine aH.loopF ac ag (fun _:Unit=>True) (fun _=>[(8, .int .i64 0)]) (fun _=>[(30, .row 3 0 an ([]:List Int))]) (fun _=>0) () trivial ?_;conv=>whnf
  refine⟨sI,?_⟩
  rintro _ _
  conv=>whnf
  refine fI ?_
  conv=>whnf
  exact⟨rfl,rfl⟩
 refine J1 [x] (by simp only[List.length_cons,List.length_nil,List.length_replicate];omega) rfl ?_
 rw[show[x]++(List.replicate n (0:Int)).drop [x].length=List.replicate 1 x++List.replicate (n-1) 0 by rw[List.drop_replicate];rfl]
 conv=>whnf
 refine aH.loopF ac ag (fun m:Nat=>1<=m/\m<=n) (fun m=>[(8, .int .i64 (m:Int))]) (fun m=>[(30, .row 3 0 an (List.replicate m x++List.replicate (n-m) 0))]) (fun m=>n-m) 1 ⟨Nat.le_refl _,by omega⟩ ?_;conv=>whnf
 refine⟨sI,?_⟩
 rintro m ⟨hm1,hm2⟩
 conv=>whnf
 refine ah ?_ ?_<;>(intro h1;conv=>whnf)
 ·obtain⟨k,ek⟩:∃k,Nat.min ((m:Int)-0).toNat ((n:Int)-(m:Int)).toNat=k:=⟨_,rfl⟩
  have ek':min ((m:Int)-0).toNat ((n:Int)-(m:Int)).toNat=k:=ek
  have a1:k<=m:=by omega
  have a2:k<=n-m:=by omega
  have a3:0<k:=by omega
  have e1:qH (List.replicate m x++List.replicate (n-m) 0) (m:Int).toNat (Int.toNat 0) k=List.replicate (m+k) x++List.replicate (n-(m+k)) 0:=by rw[tN];exact FN x (by omega) a1
  refine kL [1,4] (by decide+kernel) ?_
  conv=>whnf
  repeat' first
   |exact True.intro
   |(refine And.intro ?_ ?_<;>conv=>whnf)
   |(refine nI ?_;conv=>whnf)
   |(refine GF ?_;conv=>whnf)
   |(rw[ek];refine aI ?_;conv=>whnf)
   |(rw[e1];exact⟨m+k,sI,⟨by omega,by omega⟩,by dsimp only;omega⟩)
   |fail
 ·obtain rfl:m=n:=by omega
  have e:List.replicate m x++List.replicate (m-m) 0=List.replicate m x:=by rw[Nat.sub_self,List.replicate_zero,List.append_nil]
  exact⟨congrArg (AV.sl 0 an) e,rfl⟩
theorem DU (p:au) (q:aV) (sch:List Int) (vars:List Vb) (x:List Int) (hl:x.length=vars.length) (hv:vars.length<=1000000) (kind:Int) (hk:kind=5\/kind=6) (seg idx:Int):
  ak Tryz.prog 44 [.ptr 200 0, .sl 0 an x, .int .i64 kind, .int .i64 seg, .int .i64 idx] (aj.ofL (c9 p q sch vars []))
   (fun u M=>u= .int .i64 (fO vars x kind seg idx)/\M=aj.ofL (c9 p q sch vars [])):=by
 have hs:∀b,kG vars kind vars.length (seg,idx)=some b->∃m:Nat,b=m/\m<vars.length/\fO vars x kind seg idx=x.getD m 0:=by
  intro b h
  obtain⟨m,rfl,hm,e⟩:=jg h
  exact⟨m,rfl,hm,by rw[qt h,tN]⟩
 have hno:kG vars kind vars.length (seg,idx)=none->fO vars x kind seg idx=0:=qu
 generalize fO vars x kind seg idx=t at hs hno
 refine ak.idn rfl (aa) ?_
 obtain rfl|rfl:=hk
 all_goals
  refine ak.intro ac ag (c9 p q sch vars []) Tryz.func44 rfl (by decide) ?_
  (conv=>whnf)
  refine bI (by decide) ?_
  (conv=>whnf)
  refine AR iX (seg,idx) rfl (fun b hb=>?_) (fun hb=>?_)<;>(conv=>whnf)
  ·obtain⟨m,rfl,hm,e⟩:=hs b hb
   subst e
   refine nI ?_
   rw[tN]
   (conv=>whnf)
   exact⟨rfl,(aa)⟩
  ·have e:=hno hb
   subst e
   exact⟨rfl,(aa)⟩
theorem Ic (vars:List Vb) (hn:vars.Nodup) (x:List Int) (hl:x.length=vars.length) (hv:vars.length<=1000000) (kind seg idx:Int):
  ab Tryz.prog 50 [.sl cm dJ vars, .sl 0 an x, .int .i64 kind, .int .i64 seg, .int .i64 idx] (fun u=>u= .int .i64 (fO vars x kind seg idx)):=by
 refine ab.intro ac ag Tryz.func50 rfl (by decide) ?_;(conv=>whnf)
 refine aH.loopF ac ag (fun k:Nat=>k<=vars.length/\∀j,j<k->vars.getD j cm≠⟨kind,seg,idx⟩) (fun k=>[(11, .int .i64 (k:Int))]) (fun _=>[]) (fun k=>vars.length-k) 0 ⟨Nat.zero_le _,fun j hj=>absurd hj (Nat.not_lt_zero _)⟩ ?_;conv=>whnf
 refine⟨sI,?_⟩
 rintro k ⟨hk,ha⟩
 conv=>whnf
 refine ah ?_ ?_<;>(intro h1;conv=>whnf)
 ·refine nI ?_
  rw[tN]
  conv=>whnf
  refine ah ?_ ?_<;>(intro h2;conv=>whnf)
  ·refine nI ?_
   rw[tN]
   conv=>whnf
   have e:vars.getD k cm=⟨kind,seg,idx⟩:=by
    injection h2 with a b
    injection b with b c
    injection c with c d
    exact lN a b c
   refine⟨n9 ?_,rfl⟩
   rw[nU hn,<-e,if_pos (aP cm (by omega)),qv hn x (by omega)]
  ·repeat' ((first|refine nI ?_|refine aI ?_|refine dz trivial (by omega) ?_|refine dV trivial (by omega) ?_|refine dI ?_|refine dR ?_|refine dP ?_|refine al rfl ?_|refine pI _ rfl ?_|refine ap _ rfl ?_|refine tI ?_|refine fI ?_|refine ah (fun _=>?_) (fun _=>?_))<;>conv=>whnf)
   refine⟨k+1,sI,⟨by omega,fun j hj=>?_⟩,by dsimp only;omega⟩
   by_cases e:j=k
   ·subst e;intro e;exact h2 (by rw[e])
   ·exact ha j (by omega)
 ·obtain rfl:k=vars.length:=by omega
  refine⟨n9 ?_,rfl⟩
  rw[nU hn,if_neg]
  intro hm
  obtain⟨j,hj,e⟩:=List.getElem_of_mem hm
  exact ha j hj (by rw[ay cm hj,e])
def tV (vars:List Vb) (x:List Int):Nat->List Int
 |0=>[]
 |y+1=>tV vars x y++tQ vars x (3+(y:Int)) vars.length
theorem tT {vars:List Vb} {x:List Int} {kind:Int} (h:∀m,m<x.length->0<=x.getD m 0/\x.getD m 0<=1048576):∀n,n<=x.length->(tQ vars x kind n).length<=1048576*n
 |0,_=>by simp[tQ]
 |n+1,hn=>by
  have a:=tT (vars:=vars) (kind:=kind) h n (by omega)
  have b:=h n (by omega)
  rw[tQ]
  split
  ·rw[List.length_append,List.length_replicate];omega
  ·omega
theorem yU {vars:List Vb} {x:List Int} (hl:x.length=vars.length) (hv:vars.length<=79) (h:∀m,m<x.length->0<=x.getD m 0/\x.getD m 0<=1048576):∀y,(tV vars x y).length<=82837504*y
 |0=>by simp[tV]
 |y+1=>by
  have a:=yU hl hv h y
  have b:=tT (vars:=vars) (kind:=3+(y:Int)) h vars.length (by omega)
  rw[tV,List.length_append]
  omega
theorem Ie (p:au) (hm:p.messages.length<=3) (vars:List Vb) (x:List Int) (hl:x.length=vars.length) (h3:3<=vars.length) (hv:vars.length<=79) (h:∀m,m<x.length->0<=x.getD m 0/\x.getD m 0<=1048576):
  ab Tryz.prog 47 [.agg (aO p), .sl cm dJ vars, .sl 0 an x] (fun u=>u= .agg (aW ⟨[],tV vars x 2,x.getD 0 0-x.getD 2 0,List.replicate p.messages.length 0,List.replicate p.messages.length 0,0⟩)):=by
 have hw:=yU hl hv h
 have hxl:=fun kind=>tT (vars:=vars) (kind:=kind) h
 have h0:=h 0 (by omega)
 have h2:=h 2 (by omega)
 refine ab.sub (R:=fun u=>u= .agg [.nilsl, .sl 0 an (tV vars x 2), .int .i64 (x.getD 0 0-x.getD 2 0), .sl 0 an (List.replicate p.messages.length 0), .sl 0 an (List.replicate p.messages.length 0), .int .i64 0]) ?_ (by rintro _ rfl;exact⟨_,rfl,aa,rfl⟩)
 refine ab.intro ac ag Tryz.func47 rfl (by decide) ?_;(conv=>whnf)
 refine al rfl ?_
 conv=>whnf
 refine dP ?_
 conv=>whnf
 refine nI ?_
 conv=>whnf
 refine nI ?_
 conv=>whnf
 rw[show(Int.toNat 0)=0 from rfl,show(Int.toNat 2)=2 from rfl]
 refine aI ?_
 conv=>whnf
 refine xF 0 an 0 rfl (by dsimp only;omega) ?_
 rw[tN]
 conv=>whnf
 refine xF 0 an 0 rfl (by dsimp only;omega) ?_
 rw[tN]
 conv=>whnf
 refine aH.loopF ac ag (fun y:Nat=>y<=2) (fun y=>[(8, .int .i64 (3+(y:Int)))]) (fun y=>[(6, .box 36 eH),(7, .box 36 [.nilsl, .row 1000 (tV vars x y).length 1, .int .i64 (x.getD 0 0-x.getD 2 0), .row 21 p.messages.length 1, .row 25 p.messages.length 1, .int .i64 0]),(1000, .row 3 0 an (tV vars x y)),(21, .row 3 0 an (List.replicate p.messages.length 0)),(25, .row 3 0 an (List.replicate p.messages.length 0))]) (fun y=>2-y) 0 (Nat.zero_le _) ?_;conv=>whnf
 refine⟨aL.by_ [(6, .old 6),(7, .old 7),(1000, .nil 1),(21, .old 21),(25, .old 25)] _ 400 rfl (aa) (aa),?_⟩
 rintro y hy
 have hwy:=hw y
 conv=>whnf
 refine ah ?_ ?_<;>(intro g1;conv=>whnf)
 rotate_left
 ·obtain rfl:y=2:=by omega
  exact⟨rfl,rfl⟩
 have edg:tV vars x (y+1)=tV vars x y++tQ vars x (3+(y:Int)) vars.length:=rfl
 refine aH.loopF ac ag (fun i:Nat=>i<=vars.length) (fun i=>[(9, .int .i64 (i:Int))]) (fun i=>[(6, .box 36 eH),(7, .box 36 [.nilsl, .row 1000 (tV vars x y++tQ vars x (3+(y:Int)) i).length 1, .int .i64 (x.getD 0 0-x.getD 2 0), .row 21 p.messages.length 1, .row 25 p.messages.length 1, .int .i64 0]),(1000, .row 3 0 an (tV vars x y++tQ vars x (3+(y:Int)) i)),(21, .row 3 0 an (List.replicate p.messages.length 0)),(25, .row 3 0 an (List.replicate p.messages.length 0))]) (fun i=>vars.length-i) 0 (Nat.zero_le _) ?_;conv=>whnf
 refine⟨by rw[show tQ vars x (3+(y:Int)) 0=[] from rfl,List.append_nil];exact aL.by_ [(6, .old 6),(7, .old 7),(1000, .old 1000),(21, .old 21),(25, .old 25)] _ 400 rfl (aa) (aa),?_⟩
 rintro i hi
 have hxi:=hxl (3+(y:Int)) i (by omega)
 conv=>whnf
 refine ah ?_ ?_<;>(intro g2;conv=>whnf)
 rotate_left
 ·obtain rfl:i=vars.length:=by omega
  refine aI ?_
  conv=>whnf
  refine⟨y+1,?_,by omega,by dsimp only;omega⟩
  dsimp only
  rw[edg]
  exact aL.by_ [(6, .old 6),(7, .old 7),(1000, .old 1000),(21, .old 21),(25, .old 25)] _ 400 rfl (aa) (aa)
 have hpi:=h i (by omega)
 have up:tQ vars x (3+(y:Int)) (i+1)=tQ vars x (3+(y:Int)) i++List.replicate (if(vars.getD i cm).kind=3+(y:Int) then(x.getD i 0).toNat else 0) (vars.getD i cm).idx:=by
  rw[tQ]
  split
  ·rfl
  ·rw[List.replicate_zero,List.append_nil]
 obtain⟨t,ht⟩:∃t,t=if(vars.getD i cm).kind=3+(y:Int) then(x.getD i 0).toNat else 0:=⟨_,rfl⟩
 rw[<-ht] at up
 generalize tQ vars x (3+(y:Int)) i=Di at*
 refine aH.loopF ac ag (fun k:Nat=>k<=t) (fun k=>[(10, .int .i64 (k:Int))]) (fun k=>[(6, .box 36 eH),(7, .box 36 [.nilsl, .row 1000 (tV vars x y++(Di++List.replicate k (vars.getD i cm).idx)).length 1, .int .i64 (x.getD 0 0-x.getD 2 0), .row 21 p.messages.length 1, .row 25 p.messages.length 1, .int .i64 0]),(1000, .row 3 0 an (tV vars x y++(Di++List.replicate k (vars.getD i cm).idx))),(21, .row 3 0 an (List.replicate p.messages.length 0)),(25, .row 3 0 an (List.replicate p.messages.length 0))]) (fun k=>t-k) 0 (Nat.zero_le _) ?_;conv=>whnf
 refine⟨by rw[List.replicate_zero,List.append_nil];exact aL.by_ [(6, .old 6),(7, .old 7),(1000, .old 1000),(21, .old 21),(25, .old 25)] _ 400 rfl (aa) (aa),?_⟩
 rintro k hk
 conv=>whnf
 refine nI ?_
 rw[tN]
 conv=>whnf
 refine ah ?_ ?_<;>(intro g3;conv=>whnf)
 rotate_left
 ·rw[if_neg g3] at ht
  obtain rfl:k=t:=by omega
  refine aI ?_
  conv=>whnf
  refine⟨i+1,?_,by omega,by dsimp only;omega⟩
  dsimp only
  rw[up]
  exact aL.by_ [(6, .old 6),(7, .old 7),(1000, .old 1000),(21, .old 21),(25, .old 25)] _ 400 rfl (aa) (aa)
 rw[if_pos g3] at ht
 refine nI ?_
 rw[tN]
 conv=>whnf
 refine ah ?_ ?_<;>(intro g4;conv=>whnf)
 rotate_left
 ·obtain rfl:k=t:=by omega
  refine aI ?_
  conv=>whnf
  refine⟨i+1,?_,by omega,by dsimp only;omega⟩
  dsimp only
  rw[up]
  exact aL.by_ [(6, .old 6),(7, .old 7),(1000, .old 1000),(21, .old 21),(25, .old 25)] _ 400 rfl (aa) (aa)
 have eup:tV vars x y++(Di++List.replicate (k+1) (vars.getD i cm).idx)=tV vars x y++(Di++List.replicate k (vars.getD i cm).idx)++[(vars.getD i cm).idx]:=by
  rw[List.replicate_succ',List.append_assoc,List.append_assoc]
 have ell:(tV vars x y++(Di++List.replicate k (vars.getD i cm).idx)).length<=300000000:=by
  simp only[List.length_append,List.length_replicate]
  omega
 have iI:((i:Int)).toNat=i:=tN i
 refine f7 [0,2,3,4,5,6,9] (by decide+kernel) ?_
 conv=>whnf
 repeat' first
  |exact True.intro
  |(refine And.intro ?_ ?_<;>conv=>whnf)
  |(refine nI ?_;conv=>whnf)
  |(refine bw 0 an [(vars.getD i cm).idx] rfl ?_;conv=>whnf)
  |(refine cb ?_;conv=>whnf)
  |(refine bD [(vars.getD i cm).idx] rfl lI ?_;conv=>whnf)
  |(refine aI ?_;conv=>whnf)
  |fail
 all_goals
  refine⟨k+1,?_,by omega,by dsimp only;omega⟩
  dsimp only
  rw[eup]
  exact aL.by_ [(6, .old 6),(7, .old 7),(1000, .old 62),(21, .old 21),(25, .old 25)] _ 400 rfl (aa) (aa)
inductive lA (K:AV->aj->Prop):AV->aj->Prop
 |done {u:AV} {M:aj} (h:K u M):lA K u M
 |leak {u:AV} {M:aj} (ℓ:Nat) {t:TypeId} {α:Type} {d:α} {enc:α->List AV} {l:List α} (hl:M ℓ=some (.row t d enc l)) (h:lA K (AX ℓ (.sl d enc l) u) (M.set ℓ (.gone d enc l))):lA K u M
theorem lA.ok {K:AV->aj->Prop} {u:AV} {M:aj} (h:lA K u M):∀{S F:ai} {ρ:aD} {w:World} {v:Value},aF S F ρ M w->RV S ρ v u->∃u' M' S',K u' M'/\S.le S'/\aF S' F ρ M' w/\RV S' ρ v u':=by
 induction h with
 |done h=>intro S F ρ w v hM hr;exact⟨_,_,S,h,ai.le_refl _,hM,hr⟩
 |leak ℓ hl _ ih=>
  intro S F ρ w v hM hr
  obtain⟨S1,b,hle,hb,hM1,_⟩:=hM.leak hl
  obtain⟨u',M',S',h1,h2,h3,h4⟩:=ih hM1 (AY hM1 (aj.set_eq _ _ _) (hr.mono hle (aD.le_refl _)))
  exact⟨u',M',S',h1,ai.le_trans hle h2,h3,h4⟩
theorem ak.leakO {P:Program} {f:FuncId} {args:List AV} {M:aj} {K:AV->aj->Prop} (h:ak P f args M (lA K)):ak P f args M K:=by
 rw[cr] at h⊢
 refine⟨h.1,fun S F ρ vs w hM hv=>(h.2 S F ρ vs w hM hv).mono ?_⟩
 rintro e w' ⟨v,u,M',S',ρ',rfl,hR,hle,hρ,hM',hr,hw⟩
 obtain⟨u',M2,S2,k1,k2,k3,k4⟩:=hR.ok hM' hr
 exact⟨v,u',M2,S2,ρ',rfl,k1,ai.le_trans hle k2,hρ,k3,k4,hw⟩
noncomputable def FP (vars:List Vb) (x:List Int) (ns:Nat):Nat->List Int
 |0=>[]
 |y+1=>FP vars x ns y++mY vars x (3+(y:Int)) ns
theorem yV {vars:List Vb} {x:List Int} {kind:Int}:∀n:Nat,(∀z:Nat,z<n->fO vars x kind 0 z<=8)->(mY vars x kind n).length<=8*n
 |0,_=>by simp[mY]
 |n+1,h=>by
  have a:=yV n fun z hz=>h z (by omega)
  have b:=h n (by omega)
  rw[DR,List.length_append,List.length_replicate]
  omega
theorem Ig (p:au) (q:aV) (sch:List Int) (vars:List Vb) (x:List Int) (hm:p.messages.length<=3) (hns:p.states.length<=6) (hl:x.length=vars.length) (h3:3<=vars.length) (hv:vars.length<=79) (h0:0<=x.getD 0 0/\x.getD 0 0<=1048576) (h2:0<=x.getD 2 0/\x.getD 2 0<=1048576)
  (h8:∀y:Nat,y<2->∀z:Nat,z<p.states.length->0<=fO vars x (3+(y:Int)) 0 z/\fO vars x (3+(y:Int)) 0 z<=8)
  (hw:∀y,y<=2->(FP vars x p.states.length y).length<=48*y) (hxl:∀y:Nat,y<2->∀z,z<=p.states.length->(mY vars x (3+(y:Int)) z).length<=8*z):
  ak Tryz.prog 40 [.ptr 200 0, .sl 0 an x] (aj.ofL (c9 p q sch vars []))
   (fun u M=>u= .agg [.nilsl, .sl 0 an (FP vars x p.states.length 2), .int .i64 (x.getD 0 0-x.getD 2 0), .sl 0 an (List.replicate p.messages.length 0), .sl 0 an (List.replicate p.messages.length 0), .int .i64 0]/\M=aj.ofL (c9 p q sch vars [])):=by
 refine ak.idn rfl (aa) ?_
 refine ak.leakO ?_
 refine ak.intro ac ag (c9 p q sch vars []) Tryz.func40 rfl (by decide) ?_
 conv=>whnf
 apply once (A:=aH Tryz.prog _ (.loop _) ([.ptr 200 0, .sl 0 an x, .top, .top, .ptr 4 0, .ptr 5 0]++List.replicate 33 .top++[.row 39 2 1, .int .i64 2, .int .i64 0]++List.replicate 42 .top) (aj.ofL ([(4, .box 36 eH),(5, .box 36 [.nilsl, .nilsl, .int .i64 (x.getD 0 0-x.getD 2 0), .row 27 p.messages.length 1, .row 37 p.messages.length 1, .int .i64 0]),(27, .row 3 0 an (List.replicate p.messages.length 0)),(37, .row 3 0 an (List.replicate p.messages.length 0)),(39, .row 3 0 an [3,4])]++c9 p q sch vars [])) _)
 case k=>
  intro hs0
  apply cA
  case k=>
   intro o1 o2 o3 o4 o5 o6
   refine f7 [0,1,2,3,4,5,6,7,8,9,11,12,13,14,17,18,19,21,22,23,24,27] (by decide+kernel) ?_
   conv=>whnf
   repeat' first
    |exact True.intro
    |(refine And.intro ?_ ?_<;>conv=>whnf)
    |(refine bI (by clear o1 o2 o3 o4 o5 o6;omega) ?_;conv=>whnf)
    |(refine ub trivial (by clear o1 o2 o3 o4 o5 o6;show -9223372036854775808<=x.getD 0 0-x.getD 2 0/\x.getD 0 0-x.getD 2 0<=9223372036854775807;omega) ?_;conv=>whnf)
    |(refine xF 0 an 0 rfl (by clear o1 o2 o3 o4 o5 o6;dsimp only;omega) ?_;conv=>whnf)
    |with_reducible exact o1
    |with_reducible exact o2
    |with_reducible exact o3
    |with_reducible exact o4
    |with_reducible exact o5
    |with_reducible exact o6
    |fail
  all_goals try first
   |exact True.intro
   |exact True
  all_goals exact aH.sub (aL.by_ ([(4, .old 4),(5, .old 5),(27, .old 27),(37, .old 37),(39, .old 39)]++dh) _ 400 rfl (aa) (aa)) hs0
 case h=>
  refine aH.loopF ac ag (fun y:Nat=>y<=2) (fun y=>[(41, .int .i64 (y:Int))]) (fun y=>[(4, .box 36 eH),(5, .box 36 [.nilsl, .row 1000 (FP vars x p.states.length y).length 1, .int .i64 (x.getD 0 0-x.getD 2 0), .row 27 p.messages.length 1, .row 37 p.messages.length 1, .int .i64 0]),(27, .row 3 0 an (List.replicate p.messages.length 0)),(37, .row 3 0 an (List.replicate p.messages.length 0)),(39, .row 3 0 an [3,4]),(1000, .row 3 0 an (FP vars x p.states.length y))]++c9 p q sch vars []) (fun y=>2-y) 0 (Nat.zero_le _) ?_;conv=>whnf
  refine⟨aL.by_ ([(4, .old 4),(5, .old 5),(27, .old 27),(37, .old 37),(39, .old 39),(1000, .nil 1)]++dh) _ 400 rfl (aa) (aa),?_⟩
  rintro y hy
  have hwy:=hw y hy
  conv=>whnf
  refine ah ?_ ?_<;>(intro g1;conv=>whnf)
  rotate_left
  ·obtain rfl:y=2:=by omega
   refine lA.leak 1000 rfl ?_
   refine lA.leak 27 rfl ?_
   refine lA.leak 37 rfl ?_
   exact lA.done ⟨rfl,(aa)⟩
  have hy2:y<2:=by omega
  have edg:FP vars x p.states.length (y+1)=FP vars x p.states.length y++mY vars x (3+(y:Int)) p.states.length:=rfl
  have h8y:=h8 y hy2
  have hu:=fun n=>DR vars x (3+(y:Int)) n
  have hX:=hxl y hy2
  obtain⟨F,hF⟩:∃F:Nat->List Int,F=mY vars x (3+(y:Int)):=⟨_,rfl⟩
  have hs:∀(z:Nat) b,kG vars (3+(y:Int)) vars.length (0,(z:Int))=some b->∃m:Nat,b=m/\m<vars.length/\fO vars x (3+(y:Int)) 0 z=x.getD m 0:=by
   intro z b h
   obtain⟨m,rfl,hm,e⟩:=jg h
   exact⟨m,rfl,hm,by rw[qt h,tN]⟩
  have hno:∀z:Nat,kG vars (3+(y:Int)) vars.length (0,(z:Int))=none->fO vars x (3+(y:Int)) 0 z=0:=fun z=>qu
  have hF0:F 0=[]:=by rw[hF];rfl
  rw[<-hF] at edg hu hX
  obtain⟨G,hG⟩:∃G:Nat->Int,G=fun z:Nat=>fO vars x (3+(y:Int)) 0 z:=⟨_,rfl⟩
  have eG:∀z:Nat,fO vars x (3+(y:Int)) 0 z=G z:=fun z=>by rw[hG]
  simp only[eG] at hu h8y hs hno
  clear hG eG hF hw hxl h8
  generalize FP vars x p.states.length y=W0 at*
  obtain rfl|rfl:y=0\/y=1:=by omega
  all_goals
   refine bI (by decide) ?_
   conv=>whnf
   refine aH.loopF ac ag (fun z:Nat=>z<=p.states.length) (fun z=>[(54, .int .i64 (z:Int))]) (fun z=>[(4, .box 36 eH),(5, .box 36 [.nilsl, .row 1000 (W0++F z).length 1, .int .i64 (x.getD 0 0-x.getD 2 0), .row 27 p.messages.length 1, .row 37 p.messages.length 1, .int .i64 0]),(27, .row 3 0 an (List.replicate p.messages.length 0)),(37, .row 3 0 an (List.replicate p.messages.length 0)),(39, .row 3 0 an [3,4]),(1000, .row 3 0 an (W0++F z))]++c9 p q sch vars []) (fun z=>p.states.length-z) 0 (Nat.zero_le _) ?_;conv=>whnf
   refine⟨by rw[hF0,List.append_nil];exact aL.by_ ([(4, .old 4),(5, .old 5),(27, .old 27),(37, .old 37),(39, .old 39),(1000, .old 1000)]++dh) _ 400 rfl (aa) (aa),?_⟩
   rintro z hz
   have hXz:=hX z hz
   have huz:=hu z
   conv=>whnf
   refine ah ?_ ?_<;>(intro g2;conv=>whnf)
   rotate_left
   ·obtain rfl:z=p.states.length:=by omega
    repeat' ((first|refine nI ?_|refine aI ?_|refine dz trivial (by omega) ?_|refine dV trivial (by omega) ?_|refine dI ?_|refine dR ?_|refine dP ?_|refine al rfl ?_|refine pI _ rfl ?_|refine ap _ rfl ?_|refine tI ?_|refine fI ?_|refine ah (fun _=>?_) (fun _=>?_))<;>conv=>whnf)
    first
     |(refine⟨0+1,?_,by omega,by dsimp only;omega⟩;dsimp only;rw[edg];exact aL.by_ ([(4, .old 4),(5, .old 5),(27, .old 27),(37, .old 37),(39, .old 39),(1000, .old 1000)]++dh) _ 400 rfl (aa) (aa))
     |(refine⟨1+1,?_,by omega,by dsimp only;omega⟩;dsimp only;rw[edg];exact aL.by_ ([(4, .old 4),(5, .old 5),(27, .old 27),(37, .old 37),(39, .old 39),(1000, .old 1000)]++dh) _ 400 rfl (aa) (aa))
     |fail
   refine bI (by decide) ?_
   conv=>whnf
   refine AR iX (0,(z:Int)) rfl (fun b hb=>?_) (fun hb=>?_)<;>conv=>whnf
   rotate_left
   ·have e:=hno z hb
    rw[e] at huz
    have huz:F (z+1)=F z:=by rw[huz];exact List.append_nil _
    repeat' ((first|refine nI ?_|refine aI ?_|refine dz trivial (by omega) ?_|refine dV trivial (by omega) ?_|refine dI ?_|refine dR ?_|refine dP ?_|refine al rfl ?_|refine pI _ rfl ?_|refine ap _ rfl ?_|refine tI ?_|refine fI ?_|refine ah (fun _=>?_) (fun _=>?_))<;>conv=>whnf)
    refine⟨z+1,?_,by omega,by dsimp only;omega⟩
    dsimp only
    rw[huz]
    exact aL.by_ ([(4, .old 4),(5, .old 5),(27, .old 27),(37, .old 37),(39, .old 39),(1000, .old 1000)]++dh) _ 400 rfl (aa) (aa)
   ·have h8z:=h8y z (by omega)
    obtain⟨m,rfl,hm,e⟩:=hs z b hb
    rw[e] at huz h8z
    have hR:=FO (z:Int) (x.getD m 0).toNat (by omega)
    rw[Int.toNat_of_nonneg h8z.1] at hR
    have huz:W0++F (z+1)=W0++F z++List.replicate (x.getD m 0).toNat (z:Int):=by rw[huz,List.append_assoc]
    have hln:(List.replicate (x.getD m 0).toNat (z:Int)).length<=8:=by rw[List.length_replicate];omega
    have hlW:(W0++F z).length<=100000:=by rw[List.length_append];omega
    generalize List.replicate (x.getD m 0).toNat (z:Int)=RL at*
    rw[<-tN m] at hR
    refine f7 [0,2,4,5,6,7,10] (by decide+kernel) ?_
    conv=>whnf
    repeat' first
     |exact True.intro
     |(refine And.intro ?_ ?_<;>conv=>whnf)
     |(refine nI ?_;conv=>whnf)
     |(refine bw 0 an [(z:Int)] rfl ?_;conv=>whnf)
     |(refine cb ?_;conv=>whnf)
     |(refine ak.hand 73 rfl ?_;refine ak.of_pure (n:=5) hR rfl ?_;rintro _ rfl;conv=>whnf)
     |(refine bD RL rfl (by dsimp only;omega) ?_;conv=>whnf)
     |(refine aI ?_;conv=>whnf)
     |fail
    all_goals
     refine⟨z+1,?_,by omega,by dsimp only;omega⟩
     dsimp only
     rw[huz]
     exact aL.by_ ([(4, .old 4),(5, .old 5),(27, .old 27),(37, .old 37),(39, .old 39),(1000, .old 79)]++dh) _ 400 rfl (aa) (aa)
end Go.Proofs.YtnjggjhkfncnlaaGreatDoor
