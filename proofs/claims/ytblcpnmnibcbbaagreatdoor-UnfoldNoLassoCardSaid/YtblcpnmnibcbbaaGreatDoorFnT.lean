import Derived.Test.YtblcpnmnibcbbaaGreatDoorM2
set_option linter.unusedVariables false
set_option linter.unusedSimpArgs false
namespace Go.Proofs.YtblcpnmnibcbbaaGreatDoor
set_option maxRecDepth 100000
set_option maxHeartbeats 8000000
theorem bH {a:Int} {l:List Int} (h:a=0):co (a::l)=co l:=by rw[co,if_neg (by omega)]
theorem rO {a:Int} {l:List Int} (h:a=5):co (a::l)=5:=by rw[co,if_pos (by omega),h]
theorem cx {a:Int} {l:List Int} (h:a≠0):co (a::l)=a:=by rw[co,if_pos h]
theorem kX {i n:Int} (h:0<=i/\i<=n-1):cZ i n=0:=by rw[cZ,if_neg (by omega)]
theorem mz {i n:Int} (h:¬(0<=i/\i<=n-1)):cZ i n=5:=by rw[cZ,if_pos (by omega)]
theorem kA (n:Int):cO [] n=0:=by
 have h1:jT [] n:=fun j hj=>by simp at hj
 have h2:yW []:=fun j hj=>by simp at hj
 rw[cO,if_pos h1,if_pos h2]
theorem fB {α:Type} {l:List α} (h:¬0<l.length):l=[]:=List.eq_nil_of_length_eq_zero (by omega)
def uO (p:aq) (r:cY):List Int:=
 [cZ r.src p.states.length,cZ r.dst p.states.length,(if r.kind=2\/r.kind=5 then cZ r.pfrom p.states.length else 0),(if r.kind=2\/r.kind=5 then cZ r.pto p.states.length else 0),(if r.kind=3 then kz r.response p.states.length else 0),
  bQ p.messages.length r.guards,cO r.some_ p.states.length,cO r.forall_ p.states.length,f9 p.values.length r.read,f9 p.values.length r.write,cO r.send p.messages.length,
  cO r.left p.states.length,cO r.right p.states.length,cO r.parent p.states.length,(if r.kind=4 then Bx r.at_ p.topology else 0),(if r.kind=5 then uN r.direction p.topology else 0)]
theorem Bz (l m:List Int):co (l++m)=if co l≠0 then co l else co m:=by
 induction l with
 |nil=>simp[co]
 |cons a l ih=>
  simp only[List.cons_append,co]
  by_cases h:a=0
  ·simp[h,ih]
  ·simp[h]
theorem kB (a b:Int) (l:List Int):co [a,b,co l]=co (a::b::l):=by
 simp only[co]
 by_cases h:co l=0<;>simp[h]
theorem Eb {p:aq} {r:cY} (hf:cb r.kind p.topology) (hs:¬jz r p.topology):co (uO p r)=co [cZ r.src p.states.length,cZ r.dst p.states.length,dH p r]:=by
 unfold cb at hf
 unfold jz at hs
 have hg0:bQ p.messages.length []=0:=by simp[bQ,co]
 have hv0:f9 p.values.length (-1)=0:=by rw[f9,if_neg (by omega)]
 have hk:r.kind=1\/r.kind=2\/r.kind=3\/r.kind=4\/r.kind=5:=by omega
 rcases hk with k|k|k|k|k
 ·have a1:r.left=[]:=fB (by omega)
  have a2:r.right=[]:=fB (by omega)
  have a3:r.parent=[]:=fB (by omega)
  rw[dH,if_pos k,kB,uO]
  simp only[k,a1,a2,a3,kA]
  simp[co]
 ·have a1:r.left=[]:=fB (by omega)
  have a2:r.right=[]:=fB (by omega)
  have a3:r.parent=[]:=fB (by omega)
  have a4:r.guards=[]:=fB (by omega)
  have a5:r.some_=[]:=fB (by omega)
  have a6:r.forall_=[]:=fB (by omega)
  have a7:r.send=[]:=fB (by omega)
  rw[dH,if_neg (by omega),if_pos k,kB,uO]
  simp only[k,a1,a2,a3,a4,a5,a6,a7,kA,hg0]
  simp[co]
 ·have a1:r.left=[]:=fB (by omega)
  have a2:r.right=[]:=fB (by omega)
  have a3:r.parent=[]:=fB (by omega)
  have a4:r.guards=[]:=fB (by omega)
  have a5:r.some_=[]:=fB (by omega)
  have a6:r.forall_=[]:=fB (by omega)
  have a7:r.send=[]:=fB (by omega)
  rw[dH,if_neg (by omega),if_neg (by omega),if_pos k,kB,uO]
  simp only[k,a1,a2,a3,a4,a5,a6,a7,kA,hg0]
  simp[co]
 ·have a4:r.guards=[]:=fB (by omega)
  have a5:r.some_=[]:=fB (by omega)
  have a6:r.forall_=[]:=fB (by omega)
  have a7:r.send=[]:=fB (by omega)
  have a8:r.read=-1:=by omega
  have a9:r.write=-1:=by omega
  rw[dH,if_neg (by omega),if_neg (by omega),if_neg (by omega),if_pos k,kB,uO]
  simp only[k,a4,a5,a6,a7,a8,a9,kA,hg0,hv0]
  simp[co]
 ·have a1:r.left=[]:=fB (by omega)
  have a2:r.right=[]:=fB (by omega)
  have a3:r.parent=[]:=fB (by omega)
  have a4:r.guards=[]:=fB (by omega)
  have a5:r.some_=[]:=fB (by omega)
  have a6:r.forall_=[]:=fB (by omega)
  have a7:r.send=[]:=fB (by omega)
  have a8:r.read=-1:=by omega
  have a9:r.write=-1:=by omega
  rw[dH,if_neg (by omega),if_neg (by omega),if_neg (by omega),if_neg (by omega),kB,uO]
  simp only[k,a1,a2,a3,a4,a5,a6,a7,a8,a9,kA,hg0,hv0]
  simp[co]
theorem rP {rs:List cY} {i:Nat} {r:cY} (hi:i<=rs.length):ga rs i r↔∃j,j<i/\(rs.getD j au).name=r.name:=by
 have e:∀j,j<i->(rs.take i).getD j au=rs.getD j au:=fun j hj=>by
  rw[gD,List.getElem?_take,if_pos hj,<-gD]
 have hl:(rs.take i).length=i:=by simp;omega
 unfold ga
 rw[hl]
 constructor
 ·rintro⟨j,h1,h2⟩;exact⟨j,h1,by rw[<-e j h1];exact h2⟩
 ·rintro⟨j,h1,h2⟩;exact⟨j,h1,by rw[e j h1];exact h2⟩
theorem HB {m:Int} {g:mY} (h1:0<=g.message/\g.message<=m-1) (h2:1<=g.coef/\g.coef<=100) (h3:mt g.bound):gE m g=0:=by
 rw[gE,bH (kX h1),bH (by rw[ky,if_neg (by omega)]),bH (by rw[mw,if_pos h3])];rfl
theorem rQ (m v:Int) (hm:0<=m):(v=-1/\f9 m v=0)\/(v≠-1/\(0<=v/\v<=m-1)/\f9 m v=0)\/(v≠-1/\¬(0<=v/\v<=m-1)/\f9 m v=5):=by
 unfold f9
 by_cases h1:v=-1
 ·left;exact⟨h1,if_neg (by omega)⟩
 ·by_cases h2:0<=v/\v<=m-1
  ·right;left;exact⟨h1,h2,if_neg (by omega)⟩
  ·right;right;exact⟨h1,h2,if_pos (by omega)⟩
theorem HC (p:aq) (i:Nat) (hp:Bn p) (hi:i<p.rules.length):aa Tryz.prog 121 [.agg (bc p), .int .i64 (i:Int)] (fun u=>u= .int .i64 (cW p i (p.rules.getD i au))):=by
 have hle:=nu hp
 have hbr:=uD hp hi
 refine aa.intro ab ac Tryz.func121 rfl (by decide) ?_;(conv=>whnf)
 refine am rfl ?_
 conv=>whnf
 refine dP ?_
 conv=>whnf
 refine nI ?_
 rw[tN]
 generalize p.rules.getD i au=r at hbr
 have hrl:=wB hbr
 conv=>whnf
 refine dC (jy r.name (by omega)) (fun _=>?_) (fun _=>?_)<;>(conv=>whnf)
 case refine_2=>rename_i hv;exact⟨aj (by rw[cW,if_pos (.inl hv)]),rfl⟩
 rename_i hv
 refine aR.loopF ab ac (fun k:Nat=>k<=i/\∀j,j<k->(p.rules.getD j au).name≠r.name) (fun k=>[(7, .int .i64 (k:Int))]) (fun _=>[(5, .box 89 (iY r))]) (fun k=>i-k) 0 ⟨by omega,fun j hj=>by omega⟩ ?_;conv=>whnf
 refine⟨sI,?_⟩
 rintro k ⟨hk,ha⟩
 conv=>whnf
 refine ag ?_ ?_<;>(intro h1;conv=>whnf)
 ·refine dI ?_
  conv=>whnf
  refine nI ?_
  rw[tN]
  conv=>whnf
  refine ag ?_ ?_<;>(intro h2;conv=>whnf)
  ·exact⟨aj (by rw[cW,if_pos (.inr ((rP (by omega)).2 ⟨k,by omega,h2⟩))]),rfl⟩
  ·repeat' ((first|refine nI ?_|refine aI ?_|refine uI ?_|refine vI ?_|refine dI ?_|refine dR ?_|refine dP ?_|refine am rfl ?_|refine pI _ rfl ?_|refine ak _ rfl ?_|refine tI ?_|refine fI ?_|refine ag (fun _=>?_) (fun _=>?_))<;>conv=>whnf)
   refine⟨k+1,sI,⟨by omega,fun j hj=>?_⟩,by dsimp only;omega⟩
   by_cases e:j=k
   ·subst e;exact h2
   ·exact ha j (by omega)
 have hnt:¬ga p.rules i r:=fun h=>by
  obtain⟨j,h2,h3⟩:=(rP (by omega)).1 h
  exact ha j (by omega) h3
 have e1:∀x,(if¬cR r.name\/ga p.rules i r then(2:Int) else x)=x:=fun x=>if_neg (by rintro(h|h);exact h hv;exact hnt h)
 by_cases hf:cb r.kind p.topology
 case neg=>
  have hE:cW p i r=6:=by rw[cW,e1,if_pos (.inl hf)]
  unfold cb at hf
  refine dC (bd _ _ _) (fun _=>?_) (fun _=>?_)<;>(conv=>whnf)
  ·repeat' ((first|refine nI ?_|refine aI ?_|refine uI ?_|refine vI ?_|refine dI ?_|refine dR ?_|refine dP ?_|refine am rfl ?_|refine pI _ rfl ?_|refine ak _ rfl ?_|refine tI ?_|refine fI ?_|refine ag (fun _=>?_) (fun _=>?_))<;>conv=>whnf)
   all_goals exact⟨aj hE.symm,rfl⟩
  ·exact⟨aj hE.symm,rfl⟩
 by_cases hs:jz r p.topology
 case pos=>
  have hE:cW p i r=6:=by rw[cW,e1,if_pos (.inr hs)]
  have ff:=hf
  unfold cb at ff
  refine dC (bd _ _ _) (fun _=>?_) (fun _=>?_)<;>(conv=>whnf)
  ·repeat' ((first|refine nI ?_|refine aI ?_|refine uI ?_|refine vI ?_|refine dI ?_|refine dR ?_|refine dP ?_|refine am rfl ?_|refine pI _ rfl ?_|refine ak _ rfl ?_|refine tI ?_|refine fI ?_|refine ag (fun _=>?_) (fun _=>?_))<;>conv=>whnf)
   all_goals
    refine dC (xE p r hf) (fun _=>?_) (fun _=>?_)<;>(conv=>whnf)
    ·exact⟨aj hE.symm,rfl⟩
    ·rename_i h;exact absurd hs h
  ·exact⟨aj hE.symm,rfl⟩
 have he:cW p i r=co (uO p r):=by rw[cW,e1,if_neg (by rintro(h|h);exact h hf;exact hs h),Eb hf hs]
 have ff:=hf
 unfold cb at ff
 have ss:=hs
 unfold jz at ss
 unfold uO at he
 have hk:r.kind=1\/r.kind=2\/r.kind=3\/r.kind=4\/r.kind=5:=by omega
 rcases hk with k|k|k|k|k
 all_goals
  refine dC (bd _ _ _) (fun _=>?_) (fun _=>?_)<;>(conv=>whnf)
  case refine_2=>rename_i h;omega
  repeat' ((first|refine nI ?_|refine aI ?_|refine tI ?_|refine fI ?_|fail);conv=>whnf)
  refine dC (xE p r hf) (fun _=>?_) (fun _=>?_)<;>(conv=>whnf)
  ·rename_i h;exact absurd h hs
  repeat' ((first|refine nI ?_|refine aI ?_|refine tI ?_|refine fI ?_|fail);conv=>whnf)
  iterate 2
   refine dC (bd _ _ _) (fun _=>?_) (fun _=>?_)<;>(conv=>whnf)
   case refine_2=>rename_i h;exact⟨aj (by rw[he,rO (mz h)]),rfl⟩
   rename_i h
   rw[bH (kX h)] at he
   clear h
   repeat' ((first|refine nI ?_|refine aI ?_|refine tI ?_|refine fI ?_|fail);conv=>whnf)
 rw[if_neg (by omega),if_neg (by omega),if_neg (by omega),if_neg (by omega),if_neg (by omega),bH rfl,bH rfl,bH rfl] at he
 rotate_left
 rw[if_pos (.inl k),if_pos (.inl k),if_neg (by omega),if_neg (by omega),if_neg (by omega)] at he
 iterate 2
  refine dC (bd _ _ _) (fun _=>?_) (fun _=>?_)<;>(conv=>whnf)
  case refine_2=>rename_i h;exact⟨aj (by rw[he,rO (mz h)]),rfl⟩
  rename_i h
  rw[bH (kX h)] at he
  clear h
  repeat' ((first|refine nI ?_|refine aI ?_|refine tI ?_|refine fI ?_|fail);conv=>whnf)
 rw[bH rfl] at he
 rotate_left
 rw[if_neg (by omega),if_neg (by omega),if_pos k,if_neg (by omega),if_neg (by omega),bH rfl,bH rfl] at he
 refine ag ?_ ?_<;>(intro hx;conv=>whnf)
 ·exact⟨aj (by rw[he,kz,if_pos hx,cx (by decide)]),rfl⟩
 refine aR.loopF ab ac (fun j:Nat=>j<=r.response.length/\∀q,q<j->0<=r.response.getD q 0/\r.response.getD q 0<p.states.length) (fun j=>[(9, .int .i64 (j:Int))]) (fun _=>[(5, .box 89 (iY r))]) (fun j=>r.response.length-j) 0 ⟨by omega,fun q hq=>by omega⟩ ?_;conv=>whnf
 refine⟨sI,?_⟩
 rintro j ⟨hj,hja⟩
 conv=>whnf
 refine ag ?_ ?_<;>(intro h1;conv=>whnf)
 ·refine nI ?_
  rw[tN]
  conv=>whnf
  repeat' ((first|refine nI ?_|refine aI ?_|refine tI ?_|refine fI ?_|fail);conv=>whnf)
  refine dC (bd _ _ _) (fun _=>?_) (fun _=>?_)<;>(conv=>whnf)
  ·rename_i h
   repeat' ((first|refine nI ?_|refine aI ?_|refine tI ?_|refine fI ?_|fail);conv=>whnf)
   refine⟨j+1,sI,⟨by omega,fun q hq=>?_⟩,by dsimp only;omega⟩
   by_cases e:q=j
   ·subst e;omega
   ·exact hja q (by omega)
  ·rename_i h
   refine⟨aj ?_,rfl⟩
   rw[he,kz,if_neg hx,if_neg (fun hh:jT r.response p.states.length=>by have:=hh j (by omega);omega),cx (by decide)]
 rw[kz,if_neg hx,if_pos (show jT r.response p.states.length from fun q hq=>hja q (by omega)),bH rfl] at he
 repeat' ((first|refine nI ?_|refine aI ?_|refine tI ?_|refine fI ?_|fail);conv=>whnf)
 rotate_left
 rw[if_neg (by omega),if_neg (by omega),if_neg (by omega),if_pos k,if_neg (by omega),bH rfl,bH rfl,bH rfl] at he
 rotate_left
 rw[if_pos (.inr k),if_pos (.inr k),if_neg (by omega),if_neg (by omega),if_pos k] at he
 iterate 2
  refine dC (bd _ _ _) (fun _=>?_) (fun _=>?_)<;>(conv=>whnf)
  case refine_2=>rename_i h;exact⟨aj (by rw[he,rO (mz h)]),rfl⟩
  rename_i h
  rw[bH (kX h)] at he
  clear h
  repeat' ((first|refine nI ?_|refine aI ?_|refine tI ?_|refine fI ?_|fail);conv=>whnf)
 rw[bH rfl] at he
 rotate_left
 all_goals
  refine aR.loopF ab ac (fun j:Nat=>j<=r.guards.length/\co (r.guards.map (gE p.messages.length))=co ((r.guards.drop j).map (gE p.messages.length))) (fun j=>[(10, .int .i64 (j:Int))]) (fun _=>[(5, .box 89 (iY r))]) (fun j=>r.guards.length-j) 0 ⟨by omega,rfl⟩ ?_;conv=>whnf
  refine⟨sI,?_⟩
  rintro j ⟨hj,hjo⟩
  conv=>whnf
  refine ag ?_ ?_<;>(intro h1;conv=>whnf)
  ·refine nI ?_
   rw[tN]
   rw[d7 _ du (by omega)] at hjo
   generalize r.guards.getD j du=g at hjo
   conv=>whnf
   repeat' ((first|refine nI ?_|refine aI ?_|refine tI ?_|refine fI ?_|fail);conv=>whnf)
   have bad:∀x:Int,x≠0->gE p.messages.length g=x->cW p i r=x:=fun x hx hg=>by
    rw[hg,if_pos hx] at hjo
    have hge:bQ p.messages.length r.guards=x:=by rw[bQ,hjo,if_pos hx]
    rw[he,cx (by rw[hge];exact hx),hge]
   refine dC (bd _ _ _) (fun _=>?_) (fun _=>?_)<;>(conv=>whnf)
   case refine_2=>rename_i h;exact⟨aj (bad 5 (by decide) (by rw[gE,rO (mz h)])).symm,rfl⟩
   rename_i g1
   refine dC (bd _ _ _) (fun _=>?_) (fun _=>?_)<;>(conv=>whnf)
   case refine_2=>rename_i h;exact⟨aj (bad 1 (by decide) (by rw[gE,bH (kX g1),ky,if_pos (by omega),cx (by decide)])).symm,rfl⟩
   rename_i g2
   refine dC (FZ g.bound) (fun _=>?_) (fun _=>?_)<;>(conv=>whnf)
   case refine_2=>rename_i h;exact⟨aj (bad 4 (by decide) (by rw[gE,bH (kX g1),ky,if_neg (by omega),bH rfl,mw,if_neg h,cx (by decide)])).symm,rfl⟩
   rename_i g3
   rw[if_neg (by rw[HB g1 g2 g3];simp)] at hjo
   repeat' ((first|refine nI ?_|refine aI ?_|refine tI ?_|refine fI ?_|fail);conv=>whnf)
   exact⟨j+1,sI,⟨by omega,hjo⟩,by dsimp only;omega⟩
  obtain rfl:j=r.guards.length:=by omega
  rw[List.drop_length] at hjo
  have hjo:co (r.guards.map (gE p.messages.length))=0:=hjo
  refine ag ?_ ?_<;>(intro hx;conv=>whnf)
  ·exact⟨aj (by rw[he,bQ,hjo,if_neg (by simp),if_pos (by omega),cx (by decide)]),rfl⟩
  rw[bQ,hjo,if_neg (by simp),if_neg (by omega),bH rfl] at he
  repeat' ((first|refine nI ?_|refine aI ?_|refine tI ?_|refine fI ?_|fail);conv=>whnf)
  (refine oP (pL r.some_ _ (by omega) (by omega)) ?_;conv=>whnf)
  refine ag ?_ ?_<;>(intro hx;conv=>whnf)
  ·exact⟨aj (by rw[he,cx hx]),rfl⟩
  rw[bH (by omega)] at he
  repeat' ((first|refine nI ?_|refine aI ?_|refine tI ?_|refine fI ?_|fail);conv=>whnf)
  (refine oP (pL r.forall_ _ (by omega) (by omega)) ?_;conv=>whnf)
  refine ag ?_ ?_<;>(intro hx;conv=>whnf)
  ·exact⟨aj (by rw[he,cx hx]),rfl⟩
  rw[bH (by omega)] at he
 all_goals rcases rQ p.values.length r.read (by omega) with ⟨v1,v2⟩|⟨v1,v2,v3⟩|⟨v1,v2,v3⟩
 all_goals try(exfalso;omega)
 all_goals
  first
  |rw[bH v2] at he
   repeat' ((first|refine nI ?_|refine aI ?_|refine tI ?_|refine fI ?_|fail);conv=>whnf)
  |rw[bH v3] at he
   repeat' ((first|refine nI ?_|refine aI ?_|refine tI ?_|refine fI ?_|fail);conv=>whnf)
   refine dC (bd _ _ _) (fun _=>?_) (fun _=>?_)<;>(conv=>whnf)
   case refine_2=>rename_i h;exact absurd v2 h
   rename_i h
   clear h
   repeat' ((first|refine nI ?_|refine aI ?_|refine tI ?_|refine fI ?_|fail);conv=>whnf)
  |skip
   repeat' ((first|refine nI ?_|refine aI ?_|refine tI ?_|refine fI ?_|fail);conv=>whnf)
   refine dC (bd _ _ _) (fun _=>?_) (fun _=>?_)<;>(conv=>whnf)
   ·rename_i h;exact absurd h v2
   ·exact⟨aj (by rw[he,rO v3]),rfl⟩
 all_goals rcases rQ p.values.length r.write (by omega) with ⟨w1,w2⟩|⟨w1,w2,w3⟩|⟨w1,w2,w3⟩
 all_goals try(exfalso;omega)
 all_goals
  first
  |rw[bH w2] at he
   repeat' ((first|refine nI ?_|refine aI ?_|refine tI ?_|refine fI ?_|fail);conv=>whnf)
  |rw[bH w3] at he
   repeat' ((first|refine nI ?_|refine aI ?_|refine tI ?_|refine fI ?_|fail);conv=>whnf)
   refine dC (bd _ _ _) (fun _=>?_) (fun _=>?_)<;>(conv=>whnf)
   case refine_2=>rename_i h;exact absurd w2 h
   rename_i h
   clear h
   repeat' ((first|refine nI ?_|refine aI ?_|refine tI ?_|refine fI ?_|fail);conv=>whnf)
  |skip
   repeat' ((first|refine nI ?_|refine aI ?_|refine tI ?_|refine fI ?_|fail);conv=>whnf)
   refine dC (bd _ _ _) (fun _=>?_) (fun _=>?_)<;>(conv=>whnf)
   ·rename_i h;exact absurd h w2
   ·exact⟨aj (by rw[he,rO w3]),rfl⟩
 all_goals
  (refine oP (pL r.send _ (by omega) (by omega)) ?_;conv=>whnf)
  refine ag ?_ ?_<;>(intro hx;conv=>whnf)
  ·exact⟨aj (by rw[he,cx hx]),rfl⟩
  rw[bH (by omega)] at he
  repeat' ((first|refine nI ?_|refine aI ?_|refine tI ?_|refine fI ?_|fail);conv=>whnf)
  (refine oP (pL r.left _ (by omega) (by omega)) ?_;conv=>whnf)
  refine ag ?_ ?_<;>(intro hx;conv=>whnf)
  ·exact⟨aj (by rw[he,cx hx]),rfl⟩
  rw[bH (by omega)] at he
  repeat' ((first|refine nI ?_|refine aI ?_|refine tI ?_|refine fI ?_|fail);conv=>whnf)
  (refine oP (pL r.right _ (by omega) (by omega)) ?_;conv=>whnf)
  refine ag ?_ ?_<;>(intro hx;conv=>whnf)
  ·exact⟨aj (by rw[he,cx hx]),rfl⟩
  rw[bH (by omega)] at he
  repeat' ((first|refine nI ?_|refine aI ?_|refine tI ?_|refine fI ?_|fail);conv=>whnf)
  (refine oP (pL r.parent _ (by omega) (by omega)) ?_;conv=>whnf)
  refine ag ?_ ?_<;>(intro hx;conv=>whnf)
  ·exact⟨aj (by rw[he,cx hx]),rfl⟩
  rw[bH (by omega)] at he
  first
  |refine fc k ?_
   conv=>whnf
   refine dC (bd _ _ _) (fun _=>?_) (fun _=>?_)<;>(conv=>whnf)
   ·rename_i h
    repeat' ((first|refine nI ?_|refine aI ?_|refine uI ?_|refine vI ?_|refine dI ?_|refine dR ?_|refine dP ?_|refine am rfl ?_|refine pI _ rfl ?_|refine ak _ rfl ?_|refine tI ?_|refine fI ?_|refine ag (fun _=>?_) (fun _=>?_))<;>conv=>whnf)
    all_goals first
     |exact⟨aj (by rw[he,Bx,if_pos (by omega)];rfl),rfl⟩
     |exact⟨aj (by rw[he,Bx,if_neg (by omega)];rfl),rfl⟩
   ·rename_i h
    exact⟨aj (by rw[he,Bx,if_pos (by omega)];rfl),rfl⟩
  |skip
   repeat' ((first|refine nI ?_|refine aI ?_|refine tI ?_|refine fI ?_|fail);conv=>whnf)
   exact⟨aj (by rw[he];rfl),rfl⟩
  |rw[bH rfl] at he
   by_cases h4:p.topology=4
   all_goals
    repeat' ((first|refine nI ?_|refine aI ?_|refine tI ?_|refine fI ?_|fail);conv=>whnf)
    refine dC (bd _ _ _) (fun _=>?_) (fun _=>?_)<;>(conv=>whnf)
    ·rename_i h
     repeat' ((first|refine nI ?_|refine aI ?_|refine tI ?_|refine fI ?_|fail);conv=>whnf)
     exact⟨aj (by rw[he,uN,if_neg (by omega)];rfl),rfl⟩
    ·rename_i h
     exact⟨aj (by rw[he,uN,if_pos (by omega)];rfl),rfl⟩
end Go.Proofs.YtblcpnmnibcbbaaGreatDoor
