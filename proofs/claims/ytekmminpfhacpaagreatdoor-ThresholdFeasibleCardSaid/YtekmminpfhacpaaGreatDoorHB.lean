import Derived.Test.YtekmminpfhacpaaGreatDoorX1
import Derived.Test.YtekmminpfhacpaaGreatDoorHA
import Derived.Test.YtekmminpfhacpaaGreatDoorX0
set_option linter.unusedVariables false
set_option linter.unusedSimpArgs false
namespace Go.Proofs.YtekmminpfhacpaaGreatDoor
set_option maxRecDepth 100000
set_option maxHeartbeats 16000000
theorem Iz (x:List Int) (hl:x.length<=140737488355328):ab Tryz.prog 97 [.sl 0 ak x] (fun u=>u= .bool (decide (jz x))):=by
 refine ab.intro ae ag Tryz.func97 rfl (by decide) ?_;(conv=>whnf)
 refine a8.loopF ae ag (fun k:Nat=>k<=x.length/\∀j,j<k->0<=x.getD j 0/\x.getD j 0<=1048576) (fun k=>[(3, .int .i64 (k:Int))]) (fun _=>[]) (fun k=>x.length-k) 0 ⟨Nat.zero_le _,fun j hj=>absurd hj (Nat.not_lt_zero _)⟩ ?_;conv=>whnf
 refine⟨sI,?_⟩
 rintro k ⟨hk,ha⟩
 conv=>whnf
 refine ai ?_ ?_<;>(intro h1;conv=>whnf)
 ·refine nI ?_
  rw[tN]
  conv=>whnf
  refine dC (pK (x.getD k 0) 0 1048576) (fun _=>?_) (fun _=>?_)<;>(conv=>whnf)
  ·rename_i h2
   repeat' ((first|refine nI ?_|refine aI ?_|refine uI ?_|refine vI ?_|refine dI ?_|refine dR ?_|refine dP ?_|refine ar rfl ?_|refine pI _ rfl ?_|refine an _ rfl ?_|refine tI ?_|refine fI ?_|refine ai (fun _=>?_) (fun _=>?_))<;>conv=>whnf)
   refine⟨k+1,sI,⟨by omega,fun j hj=>?_⟩,by dsimp only;omega⟩
   by_cases e:j=k
   ·subst e;exact h2
   ·exact ha j (by omega)
  ·rename_i h2
   exact⟨aC (fun h=>h2 (h k (by omega))),rfl⟩
 ·obtain rfl:k=x.length:=by omega
  exact⟨bk ha,rfl⟩
theorem QN (r:br) (x:List Int) (h2:jz x) (h3:lz r) (hl:r.coef.length=x.length) (hn:x.length<=96):ab Tryz.prog 98 [.agg (aE r), .sl 0 ak x] (fun u=>u= .int .i64 (kC r x)):=by
 refine ab.intro ae ag Tryz.func98 rfl (by decide) ?_;(conv=>whnf)
 refine ar rfl ?_
 conv=>whnf
 refine a8.loopF ae ag (fun k:Nat=>k<=r.coef.length) (fun k=>[(6, .int .i64 (k:Int)),(5, .int .i64 (r.const+dw r.coef x k))]) (fun _=>[]) (fun k=>r.coef.length-k) 0 (Nat.zero_le _) ?_;conv=>whnf
 refine⟨?_,?_⟩
 ·show bd _ _ _ _ _
  rw[dw,Int.add_zero]
  exact sI
 rintro k hk
 have hc:=h3.2
 unfold iB at hc
 have hb:=Bv h3.1 h2 (by omega) k (by omega)
 conv=>whnf
 refine ai ?_ ?_<;>(intro h1;conv=>whnf)
 ·have hm:=Bu (h3.1 k (by omega)) (h2 k (by omega))
  refine dI ?_
  conv=>whnf
  refine nI ?_
  rw[tN]
  conv=>whnf
  refine nI ?_
  rw[tN]
  conv=>whnf
  refine aI ?_
  conv=>whnf
  refine aI ?_
  conv=>whnf
  repeat' ((first|refine nI ?_|refine aI ?_|refine uI ?_|refine vI ?_|refine dI ?_|refine dR ?_|refine dP ?_|refine ar rfl ?_|refine pI _ rfl ?_|refine an _ rfl ?_|refine tI ?_|refine fI ?_|refine ai (fun _=>?_) (fun _=>?_))<;>conv=>whnf)
  refine⟨k+1,?_,by omega,by dsimp only;omega⟩
  dsimp only
  rw[dw,<-Int.add_assoc]
  exact sI
 ·obtain rfl:k=r.coef.length:=by omega
  exact⟨rfl,rfl⟩
theorem BT (s:dN) (x:List Int) (hs:PN s) (hx:x.length<=140737488355328):ab Tryz.prog 33 [.agg (ro s), .sl 0 ak x] (fun u=>u= .bool (decide (pB s x))):=by
 refine ab.intro ae ag Tryz.func33 rfl (by decide) ?_;(conv=>whnf)
 refine ar rfl ?_
 conv=>whnf
 (refine oP (E5 s hs) ?_;conv=>whnf)
 refine ai ?_ ?_<;>(intro h;conv=>whnf)
 ·exact⟨aC (fun hh=>h hh.1),rfl⟩
 have h0:fH s=0:=Classical.not_not.1 h
 obtain⟨a1,a2,a3,a4⟩:=lA h0
 refine ai (fun h'=>?_) (fun h'=>?_)<;>conv=>whnf
 ·exact⟨aC (fun hh=>h' hh.2.1),rfl⟩
 have hl:(x.length:Int)=s.vars:=Classical.not_not.1 h'
 refine dC (Iz x hx) (fun _=>?_) (fun _=>?_)<;>(conv=>whnf)
 case refine_2=>rename_i h2;exact⟨aC (fun hh=>h2 hh.2.2.1),rfl⟩
 rename_i h2
 refine a8.loopF ae ag (fun k:Nat=>k<=s.rows.length/\∀j,j<k->0<=kC (s.rows.getD j av) x) (fun k=>[(5, .int .i64 (k:Int))]) (fun _=>[]) (fun k=>s.rows.length-k) 0 ⟨Nat.zero_le _,fun j hj=>absurd hj (Nat.not_lt_zero _)⟩ ?_;conv=>whnf
 refine⟨sI,?_⟩
 rintro k ⟨hk,ha⟩
 conv=>whnf
 refine ai ?_ ?_<;>(intro h1;conv=>whnf)
 ·refine nI ?_
  rw[tN]
  conv=>whnf
  have hw:=a2 k (by omega)
  (refine oP (QN (s.rows.getD k av) x h2 (a4 k (by omega)) (by omega) (by omega)) ?_;conv=>whnf)
  refine ai ?_ ?_<;>(intro h3;conv=>whnf)
  ·exact⟨aC (fun hh=>by have:=hh.2.2.2 k (by omega);omega),rfl⟩
  repeat' ((first|refine nI ?_|refine aI ?_|refine uI ?_|refine vI ?_|refine dI ?_|refine dR ?_|refine dP ?_|refine ar rfl ?_|refine pI _ rfl ?_|refine an _ rfl ?_|refine tI ?_|refine fI ?_|refine ai (fun _=>?_) (fun _=>?_))<;>conv=>whnf)
  refine⟨k+1,sI,⟨by omega,fun j hj=>?_⟩,by dsimp only;omega⟩
  by_cases e:j=k
  ·subst e;omega
  ·exact ha j (by omega)
 ·obtain rfl:k=s.rows.length:=by omega
  exact⟨bk ⟨h0,hl,h2,ha⟩,rfl⟩
theorem OZ (n:Nat) (hn:n<=8):ab Tryz.prog 284 [.int .u64 1, .int .u64 (n:Int)] (fun u=>u= .tup [.int .u64 0, .int .u64 (n:Int)]):=by
 obtain rfl|rfl|rfl|rfl|rfl|rfl|rfl|rfl|rfl:n=0\/n=1\/n=2\/n=3\/n=4\/n=5\/n=6\/n=7\/n=8:=by omega
 all_goals
  refine ab.intro ae ag Tryz.func284 rfl (by decide) ?_;(conv=>whnf)
  repeat' ((first|refine PT trivial (by decide+kernel) ?_|refine Rq trivial (by decide+kernel) ?_|refine bp (by decide+kernel) ?_|fail)<;>conv=>whnf)
  exact⟨rfl,rfl⟩
theorem R9 (n:Nat) (hn:n<=8):ab Tryz.prog 250 [.int .u64 1, .int .u64 (n:Int)] (fun u=>u= .tup [.int .u64 0, .int .u64 (n:Int)]):=by
 have h:=OZ n hn
 refine ab.intro ae ag Tryz.func250 rfl (by decide) ?_;(conv=>whnf)
 repeat' ((first|refine nI ?_|refine aI ?_|refine uI ?_|refine vI ?_|refine dI ?_|refine dR ?_|refine dP ?_|refine ar rfl ?_|refine pI _ rfl ?_|refine an _ rfl ?_|refine tI ?_|refine fI ?_|refine ai (fun _=>?_) (fun _=>?_))<;>conv=>whnf)
 (refine oP (h) ?_;conv=>whnf)
 repeat' ((first|refine nI ?_|refine aI ?_|refine uI ?_|refine vI ?_|refine dI ?_|refine dR ?_|refine dP ?_|refine ar rfl ?_|refine pI _ rfl ?_|refine an _ rfl ?_|refine tI ?_|refine fI ?_|refine ai (fun _=>?_) (fun _=>?_))<;>conv=>whnf)
 exact⟨rfl,rfl⟩
theorem LA (x:Int) {n m k:Nat} (h1:m+k<=n) (h2:k<=m):uv (List.replicate m x++List.replicate (n-m) 0) m 0 k=List.replicate (m+k) x++List.replicate (n-(m+k)) 0:=by
 unfold uv
 rw[List.drop_zero,List.take_append_of_le_length (by simp),List.take_of_length_le (by simp),List.take_append_of_le_length (by simpa using h2),List.take_replicate,Nat.min_eq_left h2,List.drop_append,List.length_replicate,List.drop_of_length_le (by simp),List.nil_append,List.drop_replicate,<-List.append_assoc,List.replicate_append_replicate]
 congr 2
 omega
theorem LB (x:Int) (n:Nat) (hn:n<=8):ab Tryz.prog 178 [.sl 0 ak [x], .int .i64 (n:Int)] (fun u=>u= .sl 0 ak (List.replicate n x)):=by
 have hM:=R9 n hn
 refine ab.intro ae ag Tryz.func178 rfl (by decide) ?_;(conv=>whnf)
 refine fI ?_
 conv=>whnf
 refine PT trivial lI ?_
 conv=>whnf
 refine PT trivial (by omega) ?_
 conv=>whnf
 (refine oP (hM) ?_;conv=>whnf)
 refine fI ?_
 conv=>whnf
 refine fI ?_
 conv=>whnf
 refine aI ?_
 conv=>whnf
 refine Cd 0 ak 0 rfl (by dsimp only;omega) ?_
 rw[tN]
 conv=>whnf
 by_cases h0:n=0
 ·subst h0
  refine Ru rfl ?_
  conv=>whnf
  refine a8.loopF ae ag (fun _:Unit=>True) (fun _=>[(8, .int .i64 0)]) (fun _=>[(30, .row 3 0 ak ([]:List Int))]) (fun _=>0) () trivial ?_;conv=>whnf
  refine⟨sI,?_⟩
  rintro _ _
  conv=>whnf
  refine fI ?_
  conv=>whnf
  exact⟨rfl,rfl⟩
 refine Rt [x] (by simp only[List.length_cons,List.length_nil,List.length_replicate];omega) rfl ?_
 rw[show[x]++(List.replicate n (0:Int)).drop [x].length=List.replicate 1 x++List.replicate (n-1) 0 by rw[List.drop_replicate];rfl]
 conv=>whnf
 refine a8.loopF ae ag (fun m:Nat=>1<=m/\m<=n) (fun m=>[(8, .int .i64 (m:Int))]) (fun m=>[(30, .row 3 0 ak (List.replicate m x++List.replicate (n-m) 0))]) (fun m=>n-m) 1 ⟨Nat.le_refl _,by omega⟩ ?_;conv=>whnf
 refine⟨sI,?_⟩
 rintro m ⟨hm1,hm2⟩
 conv=>whnf
 refine ai ?_ ?_<;>(intro h1;conv=>whnf)
 ·obtain⟨k,ek⟩:∃k,Nat.min ((m:Int)-0).toNat ((n:Int)-(m:Int)).toNat=k:=⟨_,rfl⟩
  have ek':min ((m:Int)-0).toNat ((n:Int)-(m:Int)).toNat=k:=ek
  have a1:k<=m:=by omega
  have a2:k<=n-m:=by omega
  have a3:0<k:=by omega
  have e1:uv (List.replicate m x++List.replicate (n-m) 0) (m:Int).toNat (Int.toNat 0) k=List.replicate (m+k) x++List.replicate (n-(m+k)) 0:=by rw[tN];exact LA x (by omega) a1
  refine mQ [1,4] (by decide+kernel) ?_
  conv=>whnf
  repeat' first
   |exact True.intro
   |(refine And.intro ?_ ?_<;>conv=>whnf)
   |(refine nI ?_;conv=>whnf)
   |(refine Nq ?_;conv=>whnf)
   |(rw[ek];refine aI ?_;conv=>whnf)
   |(rw[e1];exact⟨m+k,sI,⟨by omega,by omega⟩,by dsimp only;omega⟩)
   |fail
 ·obtain rfl:m=n:=by omega
  have e:List.replicate m x++List.replicate (m-m) 0=List.replicate m x:=by rw[Nat.sub_self,List.replicate_zero,List.append_nil]
  exact⟨congrArg (AV.sl 0 ak) e,rfl⟩
theorem IA (p:ap) (q:aJ) (sch:List Int) (vars:List Vb) (x:List Int) (hl:x.length=vars.length) (hv:vars.length<=1000000) (kind:Int) (hk:kind=5\/kind=6) (seg idx:Int):
  aj Tryz.prog 93 [.ptr 200 0, .sl 0 ak x, .int .i64 kind, .int .i64 seg, .int .i64 idx] (ac.ofL (dx p q sch vars []))
   (fun u M=>u= .int .i64 (iJ vars x kind seg idx)/\M=ac.ofL (dx p q sch vars [])):=by
 have hs:∀b,mL vars kind vars.length (seg,idx)=some b->∃m:Nat,b=m/\m<vars.length/\iJ vars x kind seg idx=x.getD m 0:=by
  intro b h
  obtain⟨m,rfl,hm,e⟩:=kx h
  exact⟨m,rfl,hm,by rw[ub h,tN]⟩
 have hno:mL vars kind vars.length (seg,idx)=none->iJ vars x kind seg idx=0:=uc
 generalize iJ vars x kind seg idx=t at hs hno
 refine aj.idn rfl (aa) ?_
 obtain rfl|rfl:=hk
 all_goals
  refine aj.intro ae ag (dx p q sch vars []) Tryz.func93 rfl (by decide) ?_
  (conv=>whnf)
  refine bp (by decide) ?_
  (conv=>whnf)
  refine F0 j5 (seg,idx) rfl (fun b hb=>?_) (fun hb=>?_)<;>(conv=>whnf)
  ·obtain⟨m,rfl,hm,e⟩:=hs b hb
   subst e
   refine nI ?_
   rw[tN]
   (conv=>whnf)
   exact⟨rfl,(aa)⟩
  ·have e:=hno hb
   subst e
   exact⟨rfl,(aa)⟩
inductive oe (K:AV->ac->Prop):AV->ac->Prop
 |done {u:AV} {M:ac} (h:K u M):oe K u M
 |leak {u:AV} {M:ac} (ℓ:Nat) {t:TypeId} {α:Type} {d:α} {enc:α->List AV} {l:List α} (hl:M ℓ=some (.row t d enc l)) (h:oe K (Cr ℓ (.sl d enc l) u) (M.set ℓ (.gone d enc l))):oe K u M
theorem oe.ok {K:AV->ac->Prop} {u:AV} {M:ac} (h:oe K u M):∀{S F:ah} {ρ:aB} {w:World} {v:Value},az S F ρ M w->RV S ρ v u->∃u' M' S',K u' M'/\S.le S'/\az S' F ρ M' w/\RV S' ρ v u':=by
 induction h with
 |done h=>intro S F ρ w v hM hr;exact⟨_,_,S,h,ah.le_refl _,hM,hr⟩
 |leak ℓ hl _ ih=>
  intro S F ρ w v hM hr
  obtain⟨S1,b,hle,hb,hM1,_⟩:=hM.leak hl
  obtain⟨u',M',S',h1,h2,h3,h4⟩:=ih hM1 (yA hM1 (ac.set_eq _ _ _) (hr.mono hle (aB.le_refl _)))
  exact⟨u',M',S',h1,ah.le_trans hle h2,h3,h4⟩
theorem aj.leakO {P:Program} {f:FuncId} {args:List AV} {M:ac} {K:AV->ac->Prop} (h:aj P f args M (oe K)):aj P f args M K:=by
 rw[bB] at h⊢
 refine⟨h.1,fun S F ρ vs w hM hv=>(h.2 S F ρ vs w hM hv).mono ?_⟩
 rintro e w' ⟨v,u,M',S',ρ',rfl,hR,hle,hρ,hM',hr,hw⟩
 obtain⟨u',M2,S2,k1,k2,k3,k4⟩:=hR.ok hM' hr
 exact⟨v,u',M2,S2,ρ',rfl,k1,ah.le_trans hle k2,hρ,k3,k4,hw⟩
noncomputable def LC (vars:List Vb) (x:List Int) (ns:Nat):Nat->List Int
 |0=>[]
 |y+1=>LC vars x ns y++pQ vars x (3+(y:Int)) ns
theorem Dm {vars:List Vb} {x:List Int} {kind:Int}:∀n:Nat,(∀z:Nat,z<n->iJ vars x kind 0 z<=8)->(pQ vars x kind n).length<=8*n
 |0,_=>by simp[pQ]
 |n+1,h=>by
  have a:=Dm n fun z hz=>h z (by omega)
  have b:=h n (by omega)
  rw[Iw,List.length_append,List.length_replicate]
  omega
theorem O0 (p:ap) (q:aJ) (sch:List Int) (vars:List Vb) (x:List Int) (hm:p.messages.length<=3) (hns:p.states.length<=6) (hl:x.length=vars.length) (h3:3<=vars.length) (hv:vars.length<=79) (h0:0<=x.getD 0 0/\x.getD 0 0<=1048576) (h2:0<=x.getD 2 0/\x.getD 2 0<=1048576)
  (h8:∀y:Nat,y<2->∀z:Nat,z<p.states.length->0<=iJ vars x (3+(y:Int)) 0 z/\iJ vars x (3+(y:Int)) 0 z<=8)
  (hw:∀y,y<=2->(LC vars x p.states.length y).length<=48*y) (hxl:∀y:Nat,y<2->∀z,z<=p.states.length->(pQ vars x (3+(y:Int)) z).length<=8*z):
  aj Tryz.prog 89 [.ptr 200 0, .sl 0 ak x] (ac.ofL (dx p q sch vars []))
   (fun u M=>u= .agg [.nilsl, .sl 0 ak (LC vars x p.states.length 2), .int .i64 (x.getD 0 0-x.getD 2 0), .sl 0 ak (List.replicate p.messages.length 0), .sl 0 ak (List.replicate p.messages.length 0), .int .i64 0]/\M=ac.ofL (dx p q sch vars [])):=by
 refine aj.idn rfl (aa) ?_
 refine aj.leakO ?_
 refine aj.intro ae ag (dx p q sch vars []) Tryz.func89 rfl (by decide) ?_
 conv=>whnf
 apply once (A:=a8 Tryz.prog _ (.loop _) ([.ptr 200 0, .sl 0 ak x, .top, .top, .ptr 4 0, .ptr 5 0]++List.replicate 33 .top++[.row 39 2 1, .int .i64 2, .int .i64 0]++List.replicate 42 .top) (ac.ofL ([(4, .box 61 j6),(5, .box 61 [.nilsl, .nilsl, .int .i64 (x.getD 0 0-x.getD 2 0), .row 27 p.messages.length 1, .row 37 p.messages.length 1, .int .i64 0]),(27, .row 3 0 ak (List.replicate p.messages.length 0)),(37, .row 3 0 ak (List.replicate p.messages.length 0)),(39, .row 3 0 ak [3,4])]++dx p q sch vars [])) _)
 case k=>
  intro hs0
  apply jq
  case k=>
   intro o1 o2 o3 o4 o5 o6
   refine xm [0,1,2,3,4,5,6,7,8,9,11,12,13,14,17,18,19,21,22,23,24,27] (by decide+kernel) ?_
   conv=>whnf
   repeat' first
    |exact True.intro
    |(refine And.intro ?_ ?_<;>conv=>whnf)
    |(refine bp (by clear o1 o2 o3 o4 o5 o6;omega) ?_;conv=>whnf)
    |(refine yj trivial (by clear o1 o2 o3 o4 o5 o6;show -9223372036854775808<=x.getD 0 0-x.getD 2 0/\x.getD 0 0-x.getD 2 0<=9223372036854775807;omega) ?_;conv=>whnf)
    |(refine Cd 0 ak 0 rfl (by clear o1 o2 o3 o4 o5 o6;dsimp only;omega) ?_;conv=>whnf)
    |with_reducible assumption
    |fail
  all_goals try first
   |exact True.intro
   |exact True
  all_goals exact a8.sub (bd.by_ ([(4, .old 4),(5, .old 5),(27, .old 27),(37, .old 37),(39, .old 39)]++dX) _ 400 rfl (aa) (aa)) hs0
 case h=>
  refine a8.loopF ae ag (fun y:Nat=>y<=2) (fun y=>[(41, .int .i64 (y:Int))]) (fun y=>[(4, .box 61 j6),(5, .box 61 [.nilsl, .row 1000 (LC vars x p.states.length y).length 1, .int .i64 (x.getD 0 0-x.getD 2 0), .row 27 p.messages.length 1, .row 37 p.messages.length 1, .int .i64 0]),(27, .row 3 0 ak (List.replicate p.messages.length 0)),(37, .row 3 0 ak (List.replicate p.messages.length 0)),(39, .row 3 0 ak [3,4]),(1000, .row 3 0 ak (LC vars x p.states.length y))]++dx p q sch vars []) (fun y=>2-y) 0 (Nat.zero_le _) ?_;conv=>whnf
  refine⟨bd.by_ ([(4, .old 4),(5, .old 5),(27, .old 27),(37, .old 37),(39, .old 39),(1000, .nil 1)]++dX) _ 400 rfl (aa) (aa),?_⟩
  rintro y hy
  have hwy:=hw y hy
  conv=>whnf
  refine ai ?_ ?_<;>(intro g1;conv=>whnf)
  rotate_left
  ·obtain rfl:y=2:=by omega
   refine oe.leak 1000 rfl ?_
   refine oe.leak 27 rfl ?_
   refine oe.leak 37 rfl ?_
   exact oe.done ⟨rfl,(aa)⟩
  have hy2:y<2:=by omega
  have edg:LC vars x p.states.length (y+1)=LC vars x p.states.length y++pQ vars x (3+(y:Int)) p.states.length:=rfl
  have h8y:=h8 y hy2
  have hu:=fun n=>Iw vars x (3+(y:Int)) n
  have hX:=hxl y hy2
  obtain⟨F,hF⟩:∃F:Nat->List Int,F=pQ vars x (3+(y:Int)):=⟨_,rfl⟩
  have hs:∀(z:Nat) b,mL vars (3+(y:Int)) vars.length (0,(z:Int))=some b->∃m:Nat,b=m/\m<vars.length/\iJ vars x (3+(y:Int)) 0 z=x.getD m 0:=by
   intro z b h
   obtain⟨m,rfl,hm,e⟩:=kx h
   exact⟨m,rfl,hm,by rw[ub h,tN]⟩
  have hno:∀z:Nat,mL vars (3+(y:Int)) vars.length (0,(z:Int))=none->iJ vars x (3+(y:Int)) 0 z=0:=fun z=>uc
  have hF0:F 0=[]:=by rw[hF];rfl
  rw[<-hF] at edg hu hX
  obtain⟨G,hG⟩:∃G:Nat->Int,G=fun z:Nat=>iJ vars x (3+(y:Int)) 0 z:=⟨_,rfl⟩
  have eG:∀z:Nat,iJ vars x (3+(y:Int)) 0 z=G z:=fun z=>by rw[hG]
  simp only[eG] at hu h8y hs hno
  clear hG eG hF hw hxl h8
  generalize LC vars x p.states.length y=W0 at*
  obtain rfl|rfl:y=0\/y=1:=by omega
  all_goals
   refine bp (by decide) ?_
   conv=>whnf
   refine a8.loopF ae ag (fun z:Nat=>z<=p.states.length) (fun z=>[(54, .int .i64 (z:Int))]) (fun z=>[(4, .box 61 j6),(5, .box 61 [.nilsl, .row 1000 (W0++F z).length 1, .int .i64 (x.getD 0 0-x.getD 2 0), .row 27 p.messages.length 1, .row 37 p.messages.length 1, .int .i64 0]),(27, .row 3 0 ak (List.replicate p.messages.length 0)),(37, .row 3 0 ak (List.replicate p.messages.length 0)),(39, .row 3 0 ak [3,4]),(1000, .row 3 0 ak (W0++F z))]++dx p q sch vars []) (fun z=>p.states.length-z) 0 (Nat.zero_le _) ?_;conv=>whnf
   refine⟨by rw[hF0,List.append_nil];exact bd.by_ ([(4, .old 4),(5, .old 5),(27, .old 27),(37, .old 37),(39, .old 39),(1000, .old 1000)]++dX) _ 400 rfl (aa) (aa),?_⟩
   rintro z hz
   have hXz:=hX z hz
   have huz:=hu z
   conv=>whnf
   refine ai ?_ ?_<;>(intro g2;conv=>whnf)
   rotate_left
   ·obtain rfl:z=p.states.length:=by omega
    repeat' ((first|refine nI ?_|refine aI ?_|refine uI ?_|refine vI ?_|refine dI ?_|refine dR ?_|refine dP ?_|refine ar rfl ?_|refine pI _ rfl ?_|refine an _ rfl ?_|refine tI ?_|refine fI ?_|refine ai (fun _=>?_) (fun _=>?_))<;>conv=>whnf)
    first
     |(refine⟨0+1,?_,by omega,by dsimp only;omega⟩;dsimp only;rw[edg];exact bd.by_ ([(4, .old 4),(5, .old 5),(27, .old 27),(37, .old 37),(39, .old 39),(1000, .old 1000)]++dX) _ 400 rfl (aa) (aa))
     |(refine⟨1+1,?_,by omega,by dsimp only;omega⟩;dsimp only;rw[edg];exact bd.by_ ([(4, .old 4),(5, .old 5),(27, .old 27),(37, .old 37),(39, .old 39),(1000, .old 1000)]++dX) _ 400 rfl (aa) (aa))
     |fail
   refine bp (by decide) ?_
   conv=>whnf
   refine F0 j5 (0,(z:Int)) rfl (fun b hb=>?_) (fun hb=>?_)<;>conv=>whnf
   rotate_left
   ·have e:=hno z hb
    rw[e] at huz
    have huz:F (z+1)=F z:=by rw[huz];exact List.append_nil _
    repeat' ((first|refine nI ?_|refine aI ?_|refine uI ?_|refine vI ?_|refine dI ?_|refine dR ?_|refine dP ?_|refine ar rfl ?_|refine pI _ rfl ?_|refine an _ rfl ?_|refine tI ?_|refine fI ?_|refine ai (fun _=>?_) (fun _=>?_))<;>conv=>whnf)
    refine⟨z+1,?_,by omega,by dsimp only;omega⟩
    dsimp only
    rw[huz]
    exact bd.by_ ([(4, .old 4),(5, .old 5),(27, .old 27),(37, .old 37),(39, .old 39),(1000, .old 1000)]++dX) _ 400 rfl (aa) (aa)
   ·have h8z:=h8y z (by omega)
    obtain⟨m,rfl,hm,e⟩:=hs z b hb
    rw[e] at huz h8z
    have hR:=LB (z:Int) (x.getD m 0).toNat (by omega)
    rw[Int.toNat_of_nonneg h8z.1] at hR
    have huz:W0++F (z+1)=W0++F z++List.replicate (x.getD m 0).toNat (z:Int):=by rw[huz,List.append_assoc]
    have hln:(List.replicate (x.getD m 0).toNat (z:Int)).length<=8:=by rw[List.length_replicate];omega
    have hlW:(W0++F z).length<=100000:=by rw[List.length_append];omega
    generalize List.replicate (x.getD m 0).toNat (z:Int)=RL at*
    rw[<-tN m] at hR
    refine xm [0,2,4,5,6,7,10] (by decide+kernel) ?_
    conv=>whnf
    repeat' first
     |exact True.intro
     |(refine And.intro ?_ ?_<;>conv=>whnf)
     |(refine nI ?_;conv=>whnf)
     |(refine c7 0 ak [(z:Int)] rfl ?_;conv=>whnf)
     |(refine dn ?_;conv=>whnf)
     |(refine aj.hand 73 rfl ?_;refine aj.of_pure (n:=5) hR rfl ?_;rintro _ rfl;conv=>whnf)
     |(refine di RL rfl (by dsimp only;omega) ?_;conv=>whnf)
     |(refine aI ?_;conv=>whnf)
     |fail
    all_goals
     refine⟨z+1,?_,by omega,by dsimp only;omega⟩
     dsimp only
     rw[huz]
     exact bd.by_ ([(4, .old 4),(5, .old 5),(27, .old 27),(37, .old 37),(39, .old 39),(1000, .old 79)]++dX) _ 400 rfl (aa) (aa)
end Go.Proofs.YtekmminpfhacpaaGreatDoor
