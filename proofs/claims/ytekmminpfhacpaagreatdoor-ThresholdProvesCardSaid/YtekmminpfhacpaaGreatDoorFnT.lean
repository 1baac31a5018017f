import Derived.Test.YtekmminpfhacpaaGreatDoorM2
set_option linter.unusedVariables false
set_option linter.unusedSimpArgs false
namespace Go.Proofs.YtekmminpfhacpaaGreatDoor
set_option maxRecDepth 100000
set_option maxHeartbeats 8000000
theorem bP {a:Int} {l:List Int} (h:a=0):dH (a::l)=dH l:=by rw[dH,if_neg (by omega)]
theorem vG {a:Int} {l:List Int} (h:a=5):dH (a::l)=5:=by rw[dH,if_pos (by omega),h]
theorem cZ {a:Int} {l:List Int} (h:a≠0):dH (a::l)=a:=by rw[dH,if_pos h]
theorem ng {i n:Int} (h:0<=i/\i<=n-1):dA i n=0:=by rw[dA,if_neg (by omega)]
theorem pl {i n:Int} (h:¬(0<=i/\i<=n-1)):dA i n=5:=by rw[dA,if_pos (by omega)]
theorem mC (n:Int):ca [] n=0:=by
 have h1:rE [] n:=fun j hj=>by simp at hj
 have h2:Bb []:=fun j hj=>by simp at hj
 rw[ca,if_pos h1,if_pos h2]
theorem gN {α:Type} {l:List α} (h:¬0<l.length):l=[]:=List.eq_nil_of_length_eq_zero (by omega)
def zc (p:av) (r:cf):List Int:=
 [dA r.src p.states.length,dA r.dst p.states.length,(if r.kind=2\/r.kind=5 then dA r.pfrom p.states.length else 0),(if r.kind=2\/r.kind=5 then dA r.pto p.states.length else 0),(if r.kind=3 then jX r.response p.states.length else 0),
  ci p.messages.length r.guards,ca r.some_ p.states.length,ca r.forall_ p.states.length,iO p.values.length r.read,iO p.values.length r.write,ca r.send p.messages.length,
  ca r.left p.states.length,ca r.right p.states.length,ca r.parent p.states.length,(if r.kind=4 then Ju r.at_ p.topology else 0),(if r.kind=5 then za r.direction p.topology else 0)]
theorem Gi (l m:List Int):dH (l++m)=if dH l≠0 then dH l else dH m:=by
 induction l with
 |nil=>simp[dH]
 |cons a l ih=>
  simp only[List.cons_append,dH]
  by_cases h:a=0
  ·simp[h,ih]
  ·simp[h]
theorem mD (a b:Int) (l:List Int):dH [a,b,dH l]=dH (a::b::l):=by
 simp only[dH]
 by_cases h:dH l=0<;>simp[h]
theorem Jw {p:av} {r:cf} (hf:i7 r.kind p.topology) (hs:¬jI r p.topology):dH (zc p r)=dH [dA r.src p.states.length,dA r.dst p.states.length,dN p r]:=by
 unfold i7 at hf
 unfold jI at hs
 have hg0:ci p.messages.length []=0:=by simp[ci,dH]
 have hv0:iO p.values.length (-1)=0:=by rw[iO,if_neg (by omega)]
 have hk:r.kind=1\/r.kind=2\/r.kind=3\/r.kind=4\/r.kind=5:=by omega
 rcases hk with k|k|k|k|k
 ·have a1:r.left=[]:=gN (by omega)
  have a2:r.right=[]:=gN (by omega)
  have a3:r.parent=[]:=gN (by omega)
  rw[dN,if_pos k,mD,zc]
  simp only[k,a1,a2,a3,mC]
  simp[dH]
 ·have a1:r.left=[]:=gN (by omega)
  have a2:r.right=[]:=gN (by omega)
  have a3:r.parent=[]:=gN (by omega)
  have a4:r.guards=[]:=gN (by omega)
  have a5:r.some_=[]:=gN (by omega)
  have a6:r.forall_=[]:=gN (by omega)
  have a7:r.send=[]:=gN (by omega)
  rw[dN,if_neg (by omega),if_pos k,mD,zc]
  simp only[k,a1,a2,a3,a4,a5,a6,a7,mC,hg0]
  simp[dH]
 ·have a1:r.left=[]:=gN (by omega)
  have a2:r.right=[]:=gN (by omega)
  have a3:r.parent=[]:=gN (by omega)
  have a4:r.guards=[]:=gN (by omega)
  have a5:r.some_=[]:=gN (by omega)
  have a6:r.forall_=[]:=gN (by omega)
  have a7:r.send=[]:=gN (by omega)
  rw[dN,if_neg (by omega),if_neg (by omega),if_pos k,mD,zc]
  simp only[k,a1,a2,a3,a4,a5,a6,a7,mC,hg0]
  simp[dH]
 ·have a4:r.guards=[]:=gN (by omega)
  have a5:r.some_=[]:=gN (by omega)
  have a6:r.forall_=[]:=gN (by omega)
  have a7:r.send=[]:=gN (by omega)
  have a8:r.read=-1:=by omega
  have a9:r.write=-1:=by omega
  rw[dN,if_neg (by omega),if_neg (by omega),if_neg (by omega),if_pos k,mD,zc]
  simp only[k,a4,a5,a6,a7,a8,a9,mC,hg0,hv0]
  simp[dH]
 ·have a1:r.left=[]:=gN (by omega)
  have a2:r.right=[]:=gN (by omega)
  have a3:r.parent=[]:=gN (by omega)
  have a4:r.guards=[]:=gN (by omega)
  have a5:r.some_=[]:=gN (by omega)
  have a6:r.forall_=[]:=gN (by omega)
  have a7:r.send=[]:=gN (by omega)
  have a8:r.read=-1:=by omega
  have a9:r.write=-1:=by omega
  rw[dN,if_neg (by omega),if_neg (by omega),if_neg (by omega),if_neg (by omega),mD,zc]
  simp only[k,a1,a2,a3,a4,a5,a6,a7,a8,a9,mC,hg0,hv0]
  simp[dH]
theorem vH {rs:List cf} {i:Nat} {r:cf} (hi:i<=rs.length):iP rs i r↔∃j,j<i/\(rs.getD j ax).name=r.name:=by
 have e:∀j,j<i->(rs.take i).getD j ax=rs.getD j ax:=fun j hj=>by
  rw[gD,List.getElem?_take,if_pos hj,<-gD]
 have hl:(rs.take i).length=i:=by simp;omega
 unfold iP
 rw[hl]
 constructor
 ·rintro⟨j,h1,h2⟩;exact⟨j,h1,by rw[<-e j h1];exact h2⟩
 ·rintro⟨j,h1,h2⟩;exact⟨j,h1,by rw[e j h1];exact h2⟩
theorem N6 {m:Int} {g:fH} (h1:0<=g.message/\g.message<=m-1) (h2:1<=g.coef/\g.coef<=100) (h3:eY g.bound):gE m g=0:=by
 rw[gE,bP (ng h1),bP (by rw[mB,if_neg (by omega)]),bP (by rw[pk,if_pos h3])];rfl
theorem vJ (m v:Int) (hm:0<=m):(v=-1/\iO m v=0)\/(v≠-1/\(0<=v/\v<=m-1)/\iO m v=0)\/(v≠-1/\¬(0<=v/\v<=m-1)/\iO m v=5):=by
 unfold iO
 by_cases h1:v=-1
 ·left;exact⟨h1,if_neg (by omega)⟩
 ·by_cases h2:0<=v/\v<=m-1
  ·right;left;exact⟨h1,h2,if_neg (by omega)⟩
  ·right;right;exact⟨h1,h2,if_pos (by omega)⟩
theorem N7 (p:av) (i:Nat) (hp:lO p) (hi:i<p.rules.length):ah Tryz.prog 208 [.agg (cV p), .int .i64 (i:Int)] (fun u=>u= .int .i64 (da p i (p.rules.getD i ax))):=by
 have hle:=kj hp
 have hbr:=yZ hp hi
 refine ah.intro ab ac Tryz.func208 rfl (by decide) ?_;(conv=>whnf)
 refine au rfl ?_
 conv=>whnf
 refine dP ?_
 conv=>whnf
 refine nI ?_
 rw[tN]
 generalize p.rules.getD i ax=r at hbr
 have hrl:=Ba hbr
 conv=>whnf
 refine dC (lq r.name (by omega)) (fun _=>?_) (fun _=>?_)<;>(conv=>whnf)
 case refine_2=>rename_i hv;exact⟨ao (by rw[da,if_pos (.inl hv)]),rfl⟩
 rename_i hv
 refine aJ.loopF ab ac (fun k:Nat=>k<=i/\∀j,j<k->(p.rules.getD j ax).name≠r.name) (fun k=>[(7, .int .i64 (k:Int))]) (fun _=>[(5, .box 180 (iL r))]) (fun k=>i-k) 0 ⟨by omega,fun j hj=>by omega⟩ ?_;conv=>whnf
 refine⟨sI,?_⟩
 rintro k ⟨hk,ha⟩
 conv=>whnf
 refine ae ?_ ?_<;>(intro h1;conv=>whnf)
 ·refine dI ?_
  conv=>whnf
  refine nI ?_
  rw[tN]
  conv=>whnf
  refine ae ?_ ?_<;>(intro h2;conv=>whnf)
  ·exact⟨ao (by rw[da,if_pos (.inr ((vH (by omega)).2 ⟨k,by omega,h2⟩))]),rfl⟩
  ·repeat' ((first|refine nI ?_|refine aI ?_|refine uI ?_|refine vI ?_|refine dI ?_|refine dR ?_|refine dP ?_|refine au rfl ?_|refine pI _ rfl ?_|refine ak _ rfl ?_|refine tI ?_|refine fI ?_|refine ae (fun _=>?_) (fun _=>?_))<;>conv=>whnf)
   refine⟨k+1,sI,⟨by omega,fun j hj=>?_⟩,by dsimp only;omega⟩
   by_cases e:j=k
   ·subst e;exact h2
   ·exact ha j (by omega)
 have hnt:¬iP p.rules i r:=fun h=>by
  obtain⟨j,h2,h3⟩:=(vH (by omega)).1 h
  exact ha j (by omega) h3
 have e1:∀x,(if¬c9 r.name\/iP p.rules i r then(2:Int) else x)=x:=fun x=>if_neg (by rintro(h|h);exact h hv;exact hnt h)
 by_cases hf:i7 r.kind p.topology
 case neg=>
  have hE:da p i r=6:=by rw[da,e1,if_pos (.inl hf)]
  unfold i7 at hf
  refine dC (bV _ _ _) (fun _=>?_) (fun _=>?_)<;>(conv=>whnf)
  ·repeat' ((first|refine nI ?_|refine aI ?_|refine uI ?_|refine vI ?_|refine dI ?_|refine dR ?_|refine dP ?_|refine au rfl ?_|refine pI _ rfl ?_|refine ak _ rfl ?_|refine tI ?_|refine fI ?_|refine ae (fun _=>?_) (fun _=>?_))<;>conv=>whnf)
   all_goals exact⟨ao hE.symm,rfl⟩
  ·exact⟨ao hE.symm,rfl⟩
 by_cases hs:jI r p.topology
 case pos=>
  have hE:da p i r=6:=by rw[da,e1,if_pos (.inr hs)]
  have ff:=hf
  unfold i7 at ff
  refine dC (bV _ _ _) (fun _=>?_) (fun _=>?_)<;>(conv=>whnf)
  ·repeat' ((first|refine nI ?_|refine aI ?_|refine uI ?_|refine vI ?_|refine dI ?_|refine dR ?_|refine dP ?_|refine au rfl ?_|refine pI _ rfl ?_|refine ak _ rfl ?_|refine tI ?_|refine fI ?_|refine ae (fun _=>?_) (fun _=>?_))<;>conv=>whnf)
   all_goals
    refine dC (CD p r hf) (fun _=>?_) (fun _=>?_)<;>(conv=>whnf)
    ·exact⟨ao hE.symm,rfl⟩
    ·rename_i h;exact absurd hs h
  ·exact⟨ao hE.symm,rfl⟩
 have he:da p i r=dH (zc p r):=by rw[da,e1,if_neg (by rintro(h|h);exact h hf;exact hs h),Jw hf hs]
 have ff:=hf
 unfold i7 at ff
 have ss:=hs
 unfold jI at ss
 unfold zc at he
 have hk:r.kind=1\/r.kind=2\/r.kind=3\/r.kind=4\/r.kind=5:=by omega
 rcases hk with k|k|k|k|k
 all_goals
  refine dC (bV _ _ _) (fun _=>?_) (fun _=>?_)<;>(conv=>whnf)
  case refine_2=>rename_i h;omega
  repeat' ((first|refine nI ?_|refine aI ?_|refine tI ?_|refine fI ?_|fail);conv=>whnf)
  refine dC (CD p r hf) (fun _=>?_) (fun _=>?_)<;>(conv=>whnf)
  ·rename_i h;exact absurd h hs
  repeat' ((first|refine nI ?_|refine aI ?_|refine tI ?_|refine fI ?_|fail);conv=>whnf)
  iterate 2
   refine dC (bV _ _ _) (fun _=>?_) (fun _=>?_)<;>(conv=>whnf)
   case refine_2=>rename_i h;exact⟨ao (by rw[he,vG (pl h)]),rfl⟩
   rename_i h
   rw[bP (ng h)] at he
   clear h
   repeat' ((first|refine nI ?_|refine aI ?_|refine tI ?_|refine fI ?_|fail);conv=>whnf)
 rw[if_neg (by omega),if_neg (by omega),if_neg (by omega),if_neg (by omega),if_neg (by omega),bP rfl,bP rfl,bP rfl] at he
 rotate_left
 rw[if_pos (.inl k),if_pos (.inl k),if_neg (by omega),if_neg (by omega),if_neg (by omega)] at he
 iterate 2
  refine dC (bV _ _ _) (fun _=>?_) (fun _=>?_)<;>(conv=>whnf)
  case refine_2=>rename_i h;exact⟨ao (by rw[he,vG (pl h)]),rfl⟩
  rename_i h
  rw[bP (ng h)] at he
  clear h
  repeat' ((first|refine nI ?_|refine aI ?_|refine tI ?_|refine fI ?_|fail);conv=>whnf)
 rw[bP rfl] at he
 rotate_left
 rw[if_neg (by omega),if_neg (by omega),if_pos k,if_neg (by omega),if_neg (by omega),bP rfl,bP rfl] at he
 refine ae ?_ ?_<;>(intro hx;conv=>whnf)
 ·exact⟨ao (by rw[he,jX,if_pos hx,cZ (by decide)]),rfl⟩
 refine aJ.loopF ab ac (fun j:Nat=>j<=r.response.length/\∀q,q<j->0<=r.response.getD q 0/\r.response.getD q 0<p.states.length) (fun j=>[(9, .int .i64 (j:Int))]) (fun _=>[(5, .box 180 (iL r))]) (fun j=>r.response.length-j) 0 ⟨by omega,fun q hq=>by omega⟩ ?_;conv=>whnf
 refine⟨sI,?_⟩
 rintro j ⟨hj,hja⟩
 conv=>whnf
 refine ae ?_ ?_<;>(intro h1;conv=>whnf)
 ·refine nI ?_
  rw[tN]
  conv=>whnf
  repeat' ((first|refine nI ?_|refine aI ?_|refine tI ?_|refine fI ?_|fail);conv=>whnf)
  refine dC (bV _ _ _) (fun _=>?_) (fun _=>?_)<;>(conv=>whnf)
  ·rename_i h
   repeat' ((first|refine nI ?_|refine aI ?_|refine tI ?_|refine fI ?_|fail);conv=>whnf)
   refine⟨j+1,sI,⟨by omega,fun q hq=>?_⟩,by dsimp only;omega⟩
   by_cases e:q=j
   ·subst e;omega
   ·exact hja q (by omega)
  ·rename_i h
   refine⟨ao ?_,rfl⟩
   rw[he,jX,if_neg hx,if_neg (fun hh:rE r.response p.states.length=>by have:=hh j (by omega);omega),cZ (by decide)]
 rw[jX,if_neg hx,if_pos (show rE r.response p.states.length from fun q hq=>hja q (by omega)),bP rfl] at he
 repeat' ((first|refine nI ?_|refine aI ?_|refine tI ?_|refine fI ?_|fail);conv=>whnf)
 rotate_left
 rw[if_neg (by omega),if_neg (by omega),if_neg (by omega),if_pos k,if_neg (by omega),bP rfl,bP rfl,bP rfl] at he
 rotate_left
 rw[if_pos (.inr k),if_pos (.inr k),if_neg (by omega),if_neg (by omega),if_pos k] at he
 iterate 2
  refine dC (bV _ _ _) (fun _=>?_) (fun _=>?_)<;>(conv=>whnf)
  case refine_2=>rename_i h;exact⟨ao (by rw[he,vG (pl h)]),rfl⟩
  rename_i h
  rw[bP (ng h)] at he
  clear h
  repeat' ((first|refine nI ?_|refine aI ?_|refine tI ?_|refine fI ?_|fail);conv=>whnf)
 rw[bP rfl] at he
 rotate_left
 all_goals
  refine aJ.loopF ab ac (fun j:Nat=>j<=r.guards.length/\dH (r.guards.map (gE p.messages.length))=dH ((r.guards.drop j).map (gE p.messages.length))) (fun j=>[(10, .int .i64 (j:Int))]) (fun _=>[(5, .box 180 (iL r))]) (fun j=>r.guards.length-j) 0 ⟨by omega,rfl⟩ ?_;conv=>whnf
  refine⟨sI,?_⟩
  rintro j ⟨hj,hjo⟩
  conv=>whnf
  refine ae ?_ ?_<;>(intro h1;conv=>whnf)
  ·refine nI ?_
   rw[tN]
   rw[fp _ aM (by omega)] at hjo
   generalize r.guards.getD j aM=g at hjo
   conv=>whnf
   repeat' ((first|refine nI ?_|refine aI ?_|refine tI ?_|refine fI ?_|fail);conv=>whnf)
   have bad:∀x:Int,x≠0->gE p.messages.length g=x->da p i r=x:=fun x hx hg=>by
    rw[hg,if_pos hx] at hjo
    have hge:ci p.messages.length r.guards=x:=by rw[ci,hjo,if_pos hx]
    rw[he,cZ (by rw[hge];exact hx),hge]
   refine dC (bV _ _ _) (fun _=>?_) (fun _=>?_)<;>(conv=>whnf)
   case refine_2=>rename_i h;exact⟨ao (bad 5 (by decide) (by rw[gE,vG (pl h)])).symm,rfl⟩
   rename_i g1
   refine dC (bV _ _ _) (fun _=>?_) (fun _=>?_)<;>(conv=>whnf)
   case refine_2=>rename_i h;exact⟨ao (bad 1 (by decide) (by rw[gE,bP (ng g1),mB,if_pos (by omega),cZ (by decide)])).symm,rfl⟩
   rename_i g2
   refine dC (N5 g.bound) (fun _=>?_) (fun _=>?_)<;>(conv=>whnf)
   case refine_2=>rename_i h;exact⟨ao (bad 4 (by decide) (by rw[gE,bP (ng g1),mB,if_neg (by omega),bP rfl,pk,if_neg h,cZ (by decide)])).symm,rfl⟩
   rename_i g3
   rw[if_neg (by rw[N6 g1 g2 g3];simp)] at hjo
   repeat' ((first|refine nI ?_|refine aI ?_|refine tI ?_|refine fI ?_|fail);conv=>whnf)
   exact⟨j+1,sI,⟨by omega,hjo⟩,by dsimp only;omega⟩
  obtain rfl:j=r.guards.length:=by omega
  rw[List.drop_length] at hjo
  have hjo:dH (r.guards.map (gE p.messages.length))=0:=hjo
  refine ae ?_ ?_<;>(intro hx;conv=>whnf)
  ·exact⟨ao (by rw[he,ci,hjo,if_neg (by simp),if_pos (by omega),cZ (by decide)]),rfl⟩
  rw[ci,hjo,if_neg (by simp),if_neg (by omega),bP rfl] at he
  repeat' ((first|refine nI ?_|refine aI ?_|refine tI ?_|refine fI ?_|fail);conv=>whnf)
  (refine oP (tx r.some_ _ (by omega) (by omega)) ?_;conv=>whnf)
  refine ae ?_ ?_<;>(intro hx;conv=>whnf)
  ·exact⟨ao (by rw[he,cZ hx]),rfl⟩
  rw[bP (by omega)] at he
  repeat' ((first|refine nI ?_|refine aI ?_|refine tI ?_|refine fI ?_|fail);conv=>whnf)
  (refine oP (tx r.forall_ _ (by omega) (by omega)) ?_;conv=>whnf)
  refine ae ?_ ?_<;>(intro hx;conv=>whnf)
  ·exact⟨ao (by rw[he,cZ hx]),rfl⟩
  rw[bP (by omega)] at he
 all_goals rcases vJ p.values.length r.read (by omega) with ⟨v1,v2⟩|⟨v1,v2,v3⟩|⟨v1,v2,v3⟩
 all_goals try(exfalso;omega)
 all_goals
  first
  |rw[bP v2] at he
   repeat' ((first|refine nI ?_|refine aI ?_|refine tI ?_|refine fI ?_|fail);conv=>whnf)
  |rw[bP v3] at he
   repeat' ((first|refine nI ?_|refine aI ?_|refine tI ?_|refine fI ?_|fail);conv=>whnf)
   refine dC (bV _ _ _) (fun _=>?_) (fun _=>?_)<;>(conv=>whnf)
   case refine_2=>rename_i h;exact absurd v2 h
   rename_i h
   clear h
   repeat' ((first|refine nI ?_|refine aI ?_|refine tI ?_|refine fI ?_|fail);conv=>whnf)
  |skip
   repeat' ((first|refine nI ?_|refine aI ?_|refine tI ?_|refine fI ?_|fail);conv=>whnf)
   refine dC (bV _ _ _) (fun _=>?_) (fun _=>?_)<;>(conv=>whnf)
   ·rename_i h;exact absurd h v2
   ·exact⟨ao (by rw[he,vG v3]),rfl⟩
 all_goals rcases vJ p.values.length r.write (by omega) with ⟨w1,w2⟩|⟨w1,w2,w3⟩|⟨w1,w2,w3⟩
 all_goals try(exfalso;omega)
 all_goals
  first
  |rw[bP w2] at he
   repeat' ((first|refine nI ?_|refine aI ?_|refine tI ?_|refine fI ?_|fail);conv=>whnf)
  |rw[bP w3] at he
   repeat' ((first|refine nI ?_|refine aI ?_|refine tI ?_|refine fI ?_|fail);conv=>whnf)
   refine dC (bV _ _ _) (fun _=>?_) (fun _=>?_)<;>(conv=>whnf)
   case refine_2=>rename_i h;exact absurd w2 h
   rename_i h
   clear h
   repeat' ((first|refine nI ?_|refine aI ?_|refine tI ?_|refine fI ?_|fail);conv=>whnf)
  |skip
   repeat' ((first|refine nI ?_|refine aI ?_|refine tI ?_|refine fI ?_|fail);conv=>whnf)
   refine dC (bV _ _ _) (fun _=>?_) (fun _=>?_)<;>(conv=>whnf)
   ·rename_i h;exact absurd h w2
   ·exact⟨ao (by rw[he,vG w3]),rfl⟩
 all_goals
  (refine oP (tx r.send _ (by omega) (by omega)) ?_;conv=>whnf)
  refine ae ?_ ?_<;>(intro hx;conv=>whnf)
  ·exact⟨ao (by rw[he,cZ hx]),rfl⟩
  rw[bP (by omega)] at he
  repeat' ((first|refine nI ?_|refine aI ?_|refine tI ?_|refine fI ?_|fail);conv=>whnf)
  (refine oP (tx r.left _ (by omega) (by omega)) ?_;conv=>whnf)
  refine ae ?_ ?_<;>(intro hx;conv=>whnf)
  ·exact⟨ao (by rw[he,cZ hx]),rfl⟩
  rw[bP (by omega)] at he
  repeat' ((first|refine nI ?_|refine aI ?_|refine tI ?_|refine fI ?_|fail);conv=>whnf)
  (refine oP (tx r.right _ (by omega) (by omega)) ?_;conv=>whnf)
  refine ae ?_ ?_<;>(intro hx;conv=>whnf)
  ·exact⟨ao (by rw[he,cZ hx]),rfl⟩
  rw[bP (by omega)] at he
  repeat' ((first|refine nI ?_|refine aI ?_|refine tI ?_|refine fI ?_|fail);conv=>whnf)
  (refine oP (tx r.parent _ (by omega) (by omega)) ?_;conv=>whnf)
  refine ae ?_ ?_<;>(intro hx;conv=>whnf)
  ·exact⟨ao (by rw[he,cZ hx]),rfl⟩
  rw[bP (by omega)] at he
  first
  |refine cO k ?_
   conv=>whnf
   refine dC (bV _ _ _) (fun _=>?_) (fun _=>?_)<;>(conv=>whnf)
   ·rename_i h
    repeat' ((first|refine nI ?_|refine aI ?_|refine uI ?_|refine vI ?_|refine dI ?_|refine dR ?_|refine dP ?_|refine au rfl ?_|refine pI _ rfl ?_|refine ak _ rfl ?_|refine tI ?_|refine fI ?_|refine ae (fun _=>?_) (fun _=>?_))<;>conv=>whnf)
    all_goals first
     |exact⟨ao (by rw[he,Ju,if_pos (by omega)];rfl),rfl⟩
     |exact⟨ao (by rw[he,Ju,if_neg (by omega)];rfl),rfl⟩
   ·rename_i h
    exact⟨ao (by rw[he,Ju,if_pos (by omega)];rfl),rfl⟩
  |skip
   repeat' ((first|refine nI ?_|refine aI ?_|refine tI ?_|refine fI ?_|fail);conv=>whnf)
   exact⟨ao (by rw[he];rfl),rfl⟩
  |rw[bP rfl] at he
   by_cases h4:p.topology=4
   all_goals
    repeat' ((first|refine nI ?_|refine aI ?_|refine tI ?_|refine fI ?_|fail);conv=>whnf)
    refine dC (bV _ _ _) (fun _=>?_) (fun _=>?_)<;>(conv=>whnf)
    ·rename_i h
     repeat' ((first|refine nI ?_|refine aI ?_|refine tI ?_|refine fI ?_|fail);conv=>whnf)
     exact⟨ao (by rw[he,za,if_neg (by omega)];rfl),rfl⟩
    ·rename_i h
     exact⟨ao (by rw[he,za,if_pos (by omega)];rfl),rfl⟩
end Go.Proofs.YtekmminpfhacpaaGreatDoor
