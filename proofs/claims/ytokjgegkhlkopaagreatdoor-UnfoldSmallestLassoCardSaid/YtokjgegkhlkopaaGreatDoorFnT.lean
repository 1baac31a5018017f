import Derived.Test.YtokjgegkhlkopaaGreatDoorM2
set_option linter.unusedVariables false
set_option linter.unusedSimpArgs false
namespace Go.Proofs.YtokjgegkhlkopaaGreatDoor
set_option maxRecDepth 100000
set_option maxHeartbeats 8000000
theorem bL {a:Int} {l:List Int} (h:a=0):cF (a::l)=cF l:=by rw[cF,if_neg (by omega)]
theorem t6 {a:Int} {l:List Int} (h:a=5):cF (a::l)=5:=by rw[cF,if_pos (by omega),h]
theorem cG {a:Int} {l:List Int} (h:a≠0):cF (a::l)=a:=by rw[cF,if_pos h]
theorem ma {i n:Int} (h:0<=i/\i<=n-1):dj i n=0:=by rw[dj,if_neg (by omega)]
theorem nV {i n:Int} (h:¬(0<=i/\i<=n-1)):dj i n=5:=by rw[dj,if_pos (by omega)]
theorem lD (n:Int):c7 [] n=0:=by
 have h1:kX [] n:=fun j hj=>by simp at hj
 have h2:Cb []:=fun j hj=>by simp at hj
 rw[c7,if_pos h1,if_pos h2]
theorem fY {α:Type} {l:List α} (h:¬0<l.length):l=[]:=List.eq_nil_of_length_eq_zero (by omega)
def xp (p:ao) (r:dh):List Int:=
 [dj r.src p.states.length,dj r.dst p.states.length,(if r.kind=2\/r.kind=5 then dj r.pfrom p.states.length else 0),(if r.kind=2\/r.kind=5 then dj r.pto p.states.length else 0),(if r.kind=3 then lC r.response p.states.length else 0),
  bZ p.messages.length r.guards,c7 r.some_ p.states.length,c7 r.forall_ p.states.length,gT p.values.length r.read,gT p.values.length r.write,c7 r.send p.messages.length,
  c7 r.left p.states.length,c7 r.right p.states.length,c7 r.parent p.states.length,(if r.kind=4 then EH r.at_ p.topology else 0),(if r.kind=5 then xo r.direction p.topology else 0)]
theorem EI (l m:List Int):cF (l++m)=if cF l≠0 then cF l else cF m:=by
 induction l with
 |nil=>simp[cF]
 |cons a l ih=>
  simp only[List.cons_append,cF]
  by_cases h:a=0
  ·simp[h,ih]
  ·simp[h]
theorem lE (a b:Int) (l:List Int):cF [a,b,cF l]=cF (a::b::l):=by
 simp only[cF]
 by_cases h:cF l=0<;>simp[h]
theorem Ht {p:ao} {r:dh} (hf:cj r.kind p.topology) (hs:¬kz r p.topology):cF (xp p r)=cF [dj r.src p.states.length,dj r.dst p.states.length,d8 p r]:=by
 unfold cj at hf
 unfold kz at hs
 have hg0:bZ p.messages.length []=0:=by simp[bZ,cF]
 have hv0:gT p.values.length (-1)=0:=by rw[gT,if_neg (by omega)]
 have hk:r.kind=1\/r.kind=2\/r.kind=3\/r.kind=4\/r.kind=5:=by omega
 rcases hk with k|k|k|k|k
 ·have a1:r.left=[]:=fY (by omega)
  have a2:r.right=[]:=fY (by omega)
  have a3:r.parent=[]:=fY (by omega)
  rw[d8,if_pos k,lE,xp]
  simp only[k,a1,a2,a3,lD]
  simp[cF]
 ·have a1:r.left=[]:=fY (by omega)
  have a2:r.right=[]:=fY (by omega)
  have a3:r.parent=[]:=fY (by omega)
  have a4:r.guards=[]:=fY (by omega)
  have a5:r.some_=[]:=fY (by omega)
  have a6:r.forall_=[]:=fY (by omega)
  have a7:r.send=[]:=fY (by omega)
  rw[d8,if_neg (by omega),if_pos k,lE,xp]
  simp only[k,a1,a2,a3,a4,a5,a6,a7,lD,hg0]
  simp[cF]
 ·have a1:r.left=[]:=fY (by omega)
  have a2:r.right=[]:=fY (by omega)
  have a3:r.parent=[]:=fY (by omega)
  have a4:r.guards=[]:=fY (by omega)
  have a5:r.some_=[]:=fY (by omega)
  have a6:r.forall_=[]:=fY (by omega)
  have a7:r.send=[]:=fY (by omega)
  rw[d8,if_neg (by omega),if_neg (by omega),if_pos k,lE,xp]
  simp only[k,a1,a2,a3,a4,a5,a6,a7,lD,hg0]
  simp[cF]
 ·have a4:r.guards=[]:=fY (by omega)
  have a5:r.some_=[]:=fY (by omega)
  have a6:r.forall_=[]:=fY (by omega)
  have a7:r.send=[]:=fY (by omega)
  have a8:r.read=-1:=by omega
  have a9:r.write=-1:=by omega
  rw[d8,if_neg (by omega),if_neg (by omega),if_neg (by omega),if_pos k,lE,xp]
  simp only[k,a4,a5,a6,a7,a8,a9,lD,hg0,hv0]
  simp[cF]
 ·have a1:r.left=[]:=fY (by omega)
  have a2:r.right=[]:=fY (by omega)
  have a3:r.parent=[]:=fY (by omega)
  have a4:r.guards=[]:=fY (by omega)
  have a5:r.some_=[]:=fY (by omega)
  have a6:r.forall_=[]:=fY (by omega)
  have a7:r.send=[]:=fY (by omega)
  have a8:r.read=-1:=by omega
  have a9:r.write=-1:=by omega
  rw[d8,if_neg (by omega),if_neg (by omega),if_neg (by omega),if_neg (by omega),lE,xp]
  simp only[k,a1,a2,a3,a4,a5,a6,a7,a8,a9,lD,hg0,hv0]
  simp[cF]
theorem t7 {rs:List dh} {i:Nat} {r:dh} (hi:i<=rs.length):gU rs i r↔∃j,j<i/\(rs.getD j au).name=r.name:=by
 have e:∀j,j<i->(rs.take i).getD j au=rs.getD j au:=fun j hj=>by
  rw[gD,List.getElem?_take,if_pos hj,<-gD]
 have hl:(rs.take i).length=i:=by simp;omega
 unfold gU
 rw[hl]
 constructor
 ·rintro⟨j,h1,h2⟩;exact⟨j,h1,by rw[<-e j h1];exact h2⟩
 ·rintro⟨j,h1,h2⟩;exact⟨j,h1,by rw[e j h1];exact h2⟩
theorem Mi {m:Int} {g:nN} (h1:0<=g.message/\g.message<=m-1) (h2:1<=g.coef/\g.coef<=100) (h3:nQ g.bound):gE m g=0:=by
 rw[gE,bL (ma h1),bL (by rw[lB,if_neg (by omega)]),bL (by rw[nT,if_pos h3])];rfl
theorem t8 (m v:Int) (hm:0<=m):(v=-1/\gT m v=0)\/(v≠-1/\(0<=v/\v<=m-1)/\gT m v=0)\/(v≠-1/\¬(0<=v/\v<=m-1)/\gT m v=5):=by
 unfold gT
 by_cases h1:v=-1
 ·left;exact⟨h1,if_neg (by omega)⟩
 ·by_cases h2:0<=v/\v<=m-1
  ·right;left;exact⟨h1,h2,if_neg (by omega)⟩
  ·right;right;exact⟨h1,h2,if_pos (by omega)⟩
theorem Mj (p:ao) (i:Nat) (hp:Ex p) (hi:i<p.rules.length):ae Tryz.prog 106 [.agg (bf p), .int .i64 (i:Int)] (fun u=>u= .int .i64 (di p i (p.rules.getD i au))):=by
 have hle:=oX hp
 have hbr:=xf hp hi
 refine ae.intro ab ac Tryz.func106 rfl (by decide) ?_;(conv=>whnf)
 refine am rfl ?_
 conv=>whnf
 refine dP ?_
 conv=>whnf
 refine nI ?_
 rw[tN]
 generalize p.rules.getD i au=r at hbr
 have hrl:=zu hbr
 conv=>whnf
 refine dC (ky r.name (by omega)) (fun _=>?_) (fun _=>?_)<;>(conv=>whnf)
 case refine_2=>rename_i hv;exact⟨aj (by rw[di,if_pos (.inl hv)]),rfl⟩
 rename_i hv
 refine aE.loopF ab ac (fun k:Nat=>k<=i/\∀j,j<k->(p.rules.getD j au).name≠r.name) (fun k=>[(7, .int .i64 (k:Int))]) (fun _=>[(5, .box 87 (fD r))]) (fun k=>i-k) 0 ⟨by omega,fun j hj=>by omega⟩ ?_;conv=>whnf
 refine⟨sI,?_⟩
 rintro k ⟨hk,ha⟩
 conv=>whnf
 refine ah ?_ ?_<;>(intro h1;conv=>whnf)
 ·refine dI ?_
  conv=>whnf
  refine nI ?_
  rw[tN]
  conv=>whnf
  refine ah ?_ ?_<;>(intro h2;conv=>whnf)
  ·exact⟨aj (by rw[di,if_pos (.inr ((t7 (by omega)).2 ⟨k,by omega,h2⟩))]),rfl⟩
  ·repeat' ((first|refine nI ?_|refine aI ?_|refine uI ?_|refine vI ?_|refine dI ?_|refine dR ?_|refine dP ?_|refine am rfl ?_|refine pI _ rfl ?_|refine ak _ rfl ?_|refine tI ?_|refine fI ?_|refine ah (fun _=>?_) (fun _=>?_))<;>conv=>whnf)
   refine⟨k+1,sI,⟨by omega,fun j hj=>?_⟩,by dsimp only;omega⟩
   by_cases e:j=k
   ·subst e;exact h2
   ·exact ha j (by omega)
 have hnt:¬gU p.rules i r:=fun h=>by
  obtain⟨j,h2,h3⟩:=(t7 (by omega)).1 h
  exact ha j (by omega) h3
 have e1:∀x,(if¬de r.name\/gU p.rules i r then(2:Int) else x)=x:=fun x=>if_neg (by rintro(h|h);exact h hv;exact hnt h)
 by_cases hf:cj r.kind p.topology
 case neg=>
  have hE:di p i r=6:=by rw[di,e1,if_pos (.inl hf)]
  unfold cj at hf
  refine dC (bm _ _ _) (fun _=>?_) (fun _=>?_)<;>(conv=>whnf)
  ·repeat' ((first|refine nI ?_|refine aI ?_|refine uI ?_|refine vI ?_|refine dI ?_|refine dR ?_|refine dP ?_|refine am rfl ?_|refine pI _ rfl ?_|refine ak _ rfl ?_|refine tI ?_|refine fI ?_|refine ah (fun _=>?_) (fun _=>?_))<;>conv=>whnf)
   all_goals exact⟨aj hE.symm,rfl⟩
  ·exact⟨aj hE.symm,rfl⟩
 by_cases hs:kz r p.topology
 case pos=>
  have hE:di p i r=6:=by rw[di,e1,if_pos (.inr hs)]
  have ff:=hf
  unfold cj at ff
  refine dC (bm _ _ _) (fun _=>?_) (fun _=>?_)<;>(conv=>whnf)
  ·repeat' ((first|refine nI ?_|refine aI ?_|refine uI ?_|refine vI ?_|refine dI ?_|refine dR ?_|refine dP ?_|refine am rfl ?_|refine pI _ rfl ?_|refine ak _ rfl ?_|refine tI ?_|refine fI ?_|refine ah (fun _=>?_) (fun _=>?_))<;>conv=>whnf)
   all_goals
    refine dC (AF p r hf) (fun _=>?_) (fun _=>?_)<;>(conv=>whnf)
    ·exact⟨aj hE.symm,rfl⟩
    ·rename_i h;exact absurd hs h
  ·exact⟨aj hE.symm,rfl⟩
 have he:di p i r=cF (xp p r):=by rw[di,e1,if_neg (by rintro(h|h);exact h hf;exact hs h),Ht hf hs]
 have ff:=hf
 unfold cj at ff
 have ss:=hs
 unfold kz at ss
 unfold xp at he
 have hk:r.kind=1\/r.kind=2\/r.kind=3\/r.kind=4\/r.kind=5:=by omega
 rcases hk with k|k|k|k|k
 all_goals
  refine dC (bm _ _ _) (fun _=>?_) (fun _=>?_)<;>(conv=>whnf)
  case refine_2=>rename_i h;omega
  repeat' ((first|refine nI ?_|refine aI ?_|refine tI ?_|refine fI ?_|fail);conv=>whnf)
  refine dC (AF p r hf) (fun _=>?_) (fun _=>?_)<;>(conv=>whnf)
  ·rename_i h;exact absurd h hs
  repeat' ((first|refine nI ?_|refine aI ?_|refine tI ?_|refine fI ?_|fail);conv=>whnf)
  iterate 2
   refine dC (bm _ _ _) (fun _=>?_) (fun _=>?_)<;>(conv=>whnf)
   case refine_2=>rename_i h;exact⟨aj (by rw[he,t6 (nV h)]),rfl⟩
   rename_i h
   rw[bL (ma h)] at he
   clear h
   repeat' ((first|refine nI ?_|refine aI ?_|refine tI ?_|refine fI ?_|fail);conv=>whnf)
 rw[if_neg (by omega),if_neg (by omega),if_neg (by omega),if_neg (by omega),if_neg (by omega),bL rfl,bL rfl,bL rfl] at he
 rotate_left
 rw[if_pos (.inl k),if_pos (.inl k),if_neg (by omega),if_neg (by omega),if_neg (by omega)] at he
 iterate 2
  refine dC (bm _ _ _) (fun _=>?_) (fun _=>?_)<;>(conv=>whnf)
  case refine_2=>rename_i h;exact⟨aj (by rw[he,t6 (nV h)]),rfl⟩
  rename_i h
  rw[bL (ma h)] at he
  clear h
  repeat' ((first|refine nI ?_|refine aI ?_|refine tI ?_|refine fI ?_|fail);conv=>whnf)
 rw[bL rfl] at he
 rotate_left
 rw[if_neg (by omega),if_neg (by omega),if_pos k,if_neg (by omega),if_neg (by omega),bL rfl,bL rfl] at he
 refine ah ?_ ?_<;>(intro hx;conv=>whnf)
 ·exact⟨aj (by rw[he,lC,if_pos hx,cG (by decide)]),rfl⟩
 refine aE.loopF ab ac (fun j:Nat=>j<=r.response.length/\∀q,q<j->0<=r.response.getD q 0/\r.response.getD q 0<p.states.length) (fun j=>[(9, .int .i64 (j:Int))]) (fun _=>[(5, .box 87 (fD r))]) (fun j=>r.response.length-j) 0 ⟨by omega,fun q hq=>by omega⟩ ?_;conv=>whnf
 refine⟨sI,?_⟩
 rintro j ⟨hj,hja⟩
 conv=>whnf
 refine ah ?_ ?_<;>(intro h1;conv=>whnf)
 ·refine nI ?_
  rw[tN]
  conv=>whnf
  repeat' ((first|refine nI ?_|refine aI ?_|refine tI ?_|refine fI ?_|fail);conv=>whnf)
  refine dC (bm _ _ _) (fun _=>?_) (fun _=>?_)<;>(conv=>whnf)
  ·rename_i h
   repeat' ((first|refine nI ?_|refine aI ?_|refine tI ?_|refine fI ?_|fail);conv=>whnf)
   refine⟨j+1,sI,⟨by omega,fun q hq=>?_⟩,by dsimp only;omega⟩
   by_cases e:q=j
   ·subst e;omega
   ·exact hja q (by omega)
  ·rename_i h
   refine⟨aj ?_,rfl⟩
   rw[he,lC,if_neg hx,if_neg (fun hh:kX r.response p.states.length=>by have:=hh j (by omega);omega),cG (by decide)]
 rw[lC,if_neg hx,if_pos (show kX r.response p.states.length from fun q hq=>hja q (by omega)),bL rfl] at he
 repeat' ((first|refine nI ?_|refine aI ?_|refine tI ?_|refine fI ?_|fail);conv=>whnf)
 rotate_left
 rw[if_neg (by omega),if_neg (by omega),if_neg (by omega),if_pos k,if_neg (by omega),bL rfl,bL rfl,bL rfl] at he
 rotate_left
 rw[if_pos (.inr k),if_pos (.inr k),if_neg (by omega),if_neg (by omega),if_pos k] at he
 iterate 2
  refine dC (bm _ _ _) (fun _=>?_) (fun _=>?_)<;>(conv=>whnf)
  case refine_2=>rename_i h;exact⟨aj (by rw[he,t6 (nV h)]),rfl⟩
  rename_i h
  rw[bL (ma h)] at he
  clear h
  repeat' ((first|refine nI ?_|refine aI ?_|refine tI ?_|refine fI ?_|fail);conv=>whnf)
 rw[bL rfl] at he
 rotate_left
 all_goals
  refine aE.loopF ab ac (fun j:Nat=>j<=r.guards.length/\cF (r.guards.map (gE p.messages.length))=cF ((r.guards.drop j).map (gE p.messages.length))) (fun j=>[(10, .int .i64 (j:Int))]) (fun _=>[(5, .box 87 (fD r))]) (fun j=>r.guards.length-j) 0 ⟨by omega,rfl⟩ ?_;conv=>whnf
  refine⟨sI,?_⟩
  rintro j ⟨hj,hjo⟩
  conv=>whnf
  refine ah ?_ ?_<;>(intro h1;conv=>whnf)
  ·refine nI ?_
   rw[tN]
   rw[eT _ dv (by omega)] at hjo
   generalize r.guards.getD j dv=g at hjo
   conv=>whnf
   repeat' ((first|refine nI ?_|refine aI ?_|refine tI ?_|refine fI ?_|fail);conv=>whnf)
   have bad:∀x:Int,x≠0->gE p.messages.length g=x->di p i r=x:=fun x hx hg=>by
    rw[hg,if_pos hx] at hjo
    have hge:bZ p.messages.length r.guards=x:=by rw[bZ,hjo,if_pos hx]
    rw[he,cG (by rw[hge];exact hx),hge]
   refine dC (bm _ _ _) (fun _=>?_) (fun _=>?_)<;>(conv=>whnf)
   case refine_2=>rename_i h;exact⟨aj (bad 5 (by decide) (by rw[gE,t6 (nV h)])).symm,rfl⟩
   rename_i g1
   refine dC (bm _ _ _) (fun _=>?_) (fun _=>?_)<;>(conv=>whnf)
   case refine_2=>rename_i h;exact⟨aj (bad 1 (by decide) (by rw[gE,bL (ma g1),lB,if_pos (by omega),cG (by decide)])).symm,rfl⟩
   rename_i g2
   refine dC (J5 g.bound) (fun _=>?_) (fun _=>?_)<;>(conv=>whnf)
   case refine_2=>rename_i h;exact⟨aj (bad 4 (by decide) (by rw[gE,bL (ma g1),lB,if_neg (by omega),bL rfl,nT,if_neg h,cG (by decide)])).symm,rfl⟩
   rename_i g3
   rw[if_neg (by rw[Mi g1 g2 g3];simp)] at hjo
   repeat' ((first|refine nI ?_|refine aI ?_|refine tI ?_|refine fI ?_|fail);conv=>whnf)
   exact⟨j+1,sI,⟨by omega,hjo⟩,by dsimp only;omega⟩
  obtain rfl:j=r.guards.length:=by omega
  rw[List.drop_length] at hjo
  have hjo:cF (r.guards.map (gE p.messages.length))=0:=hjo
  refine ah ?_ ?_<;>(intro hx;conv=>whnf)
  ·exact⟨aj (by rw[he,bZ,hjo,if_neg (by simp),if_pos (by omega),cG (by decide)]),rfl⟩
  rw[bZ,hjo,if_neg (by simp),if_neg (by omega),bL rfl] at he
  repeat' ((first|refine nI ?_|refine aI ?_|refine tI ?_|refine fI ?_|fail);conv=>whnf)
  (refine oP (rn r.some_ _ (by omega) (by omega)) ?_;conv=>whnf)
  refine ah ?_ ?_<;>(intro hx;conv=>whnf)
  ·exact⟨aj (by rw[he,cG hx]),rfl⟩
  rw[bL (by omega)] at he
  repeat' ((first|refine nI ?_|refine aI ?_|refine tI ?_|refine fI ?_|fail);conv=>whnf)
  (refine oP (rn r.forall_ _ (by omega) (by omega)) ?_;conv=>whnf)
  refine ah ?_ ?_<;>(intro hx;conv=>whnf)
  ·exact⟨aj (by rw[he,cG hx]),rfl⟩
  rw[bL (by omega)] at he
 all_goals rcases t8 p.values.length r.read (by omega) with ⟨v1,v2⟩|⟨v1,v2,v3⟩|⟨v1,v2,v3⟩
 all_goals try(exfalso;omega)
 all_goals
  first
  |rw[bL v2] at he
   repeat' ((first|refine nI ?_|refine aI ?_|refine tI ?_|refine fI ?_|fail);conv=>whnf)
  |rw[bL v3] at he
   repeat' ((first|refine nI ?_|refine aI ?_|refine tI ?_|refine fI ?_|fail);conv=>whnf)
   refine dC (bm _ _ _) (fun _=>?_) (fun _=>?_)<;>(conv=>whnf)
   case refine_2=>rename_i h;exact absurd v2 h
   rename_i h
   clear h
   repeat' ((first|refine nI ?_|refine aI ?_|refine tI ?_|refine fI ?_|fail);conv=>whnf)
  |skip
   repeat' ((first|refine nI ?_|refine aI ?_|refine tI ?_|refine fI ?_|fail);conv=>whnf)
   refine dC (bm _ _ _) (fun _=>?_) (fun _=>?_)<;>(conv=>whnf)
   ·rename_i h;exact absurd h v2
   ·exact⟨aj (by rw[he,t6 v3]),rfl⟩
 all_goals rcases t8 p.values.length r.write (by omega) with ⟨w1,w2⟩|⟨w1,w2,w3⟩|⟨w1,w2,w3⟩
 all_goals try(exfalso;omega)
 all_goals
  first
  |rw[bL w2] at he
   repeat' ((first|refine nI ?_|refine aI ?_|refine tI ?_|refine fI ?_|fail);conv=>whnf)
  |rw[bL w3] at he
   repeat' ((first|refine nI ?_|refine aI ?_|refine tI ?_|refine fI ?_|fail);conv=>whnf)
   refine dC (bm _ _ _) (fun _=>?_) (fun _=>?_)<;>(conv=>whnf)
   case refine_2=>rename_i h;exact absurd w2 h
   rename_i h
   clear h
   repeat' ((first|refine nI ?_|refine aI ?_|refine tI ?_|refine fI ?_|fail);conv=>whnf)
  |skip
   repeat' ((first|refine nI ?_|refine aI ?_|refine tI ?_|refine fI ?_|fail);conv=>whnf)
   refine dC (bm _ _ _) (fun _=>?_) (fun _=>?_)<;>(conv=>whnf)
   ·rename_i h;exact absurd h w2
   ·exact⟨aj (by rw[he,t6 w3]),rfl⟩
 all_goals
  (refine oP (rn r.send _ (by omega) (by omega)) ?_;conv=>whnf)
  refine ah ?_ ?_<;>(intro hx;conv=>whnf)
  ·exact⟨aj (by rw[he,cG hx]),rfl⟩
  rw[bL (by omega)] at he
  repeat' ((first|refine nI ?_|refine aI ?_|refine tI ?_|refine fI ?_|fail);conv=>whnf)
  (refine oP (rn r.left _ (by omega) (by omega)) ?_;conv=>whnf)
  refine ah ?_ ?_<;>(intro hx;conv=>whnf)
  ·exact⟨aj (by rw[he,cG hx]),rfl⟩
  rw[bL (by omega)] at he
  repeat' ((first|refine nI ?_|refine aI ?_|refine tI ?_|refine fI ?_|fail);conv=>whnf)
  (refine oP (rn r.right _ (by omega) (by omega)) ?_;conv=>whnf)
  refine ah ?_ ?_<;>(intro hx;conv=>whnf)
  ·exact⟨aj (by rw[he,cG hx]),rfl⟩
  rw[bL (by omega)] at he
  repeat' ((first|refine nI ?_|refine aI ?_|refine tI ?_|refine fI ?_|fail);conv=>whnf)
  (refine oP (rn r.parent _ (by omega) (by omega)) ?_;conv=>whnf)
  refine ah ?_ ?_<;>(intro hx;conv=>whnf)
  ·exact⟨aj (by rw[he,cG hx]),rfl⟩
  rw[bL (by omega)] at he
  first
  |refine dH k ?_
   conv=>whnf
   refine dC (bm _ _ _) (fun _=>?_) (fun _=>?_)<;>(conv=>whnf)
   ·rename_i h
    repeat' ((first|refine nI ?_|refine aI ?_|refine uI ?_|refine vI ?_|refine dI ?_|refine dR ?_|refine dP ?_|refine am rfl ?_|refine pI _ rfl ?_|refine ak _ rfl ?_|refine tI ?_|refine fI ?_|refine ah (fun _=>?_) (fun _=>?_))<;>conv=>whnf)
    all_goals first
     |exact⟨aj (by rw[he,EH,if_pos (by omega)];rfl),rfl⟩
     |exact⟨aj (by rw[he,EH,if_neg (by omega)];rfl),rfl⟩
   ·rename_i h
    exact⟨aj (by rw[he,EH,if_pos (by omega)];rfl),rfl⟩
  |skip
   repeat' ((first|refine nI ?_|refine aI ?_|refine tI ?_|refine fI ?_|fail);conv=>whnf)
   exact⟨aj (by rw[he];rfl),rfl⟩
  |rw[bL rfl] at he
   by_cases h4:p.topology=4
   all_goals
    repeat' ((first|refine nI ?_|refine aI ?_|refine tI ?_|refine fI ?_|fail);conv=>whnf)
    refine dC (bm _ _ _) (fun _=>?_) (fun _=>?_)<;>(conv=>whnf)
    ·rename_i h
     repeat' ((first|refine nI ?_|refine aI ?_|refine tI ?_|refine fI ?_|fail);conv=>whnf)
     exact⟨aj (by rw[he,xo,if_neg (by omega)];rfl),rfl⟩
    ·rename_i h
     exact⟨aj (by rw[he,xo,if_pos (by omega)];rfl),rfl⟩
end Go.Proofs.YtokjgegkhlkopaaGreatDoor
