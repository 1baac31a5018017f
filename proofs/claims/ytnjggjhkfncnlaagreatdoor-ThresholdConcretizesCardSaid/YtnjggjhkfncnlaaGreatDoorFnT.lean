import Derived.Test.YtnjggjhkfncnlaaGreatDoorM2
set_option linter.unusedVariables false
set_option linter.unusedSimpArgs false
namespace Go.Proofs.YtnjggjhkfncnlaaGreatDoor
set_option maxRecDepth 100000
set_option maxHeartbeats 8000000
theorem av {a:Int} {l:List Int} (h:a=0):cz (a::l)=cz l:=by rw[cz,if_neg (by omega)]
theorem cS {a:Int} {l:List Int} (h:a=5):cz (a::l)=5:=by rw[cz,if_pos (by omega),h]
theorem aw {a:Int} {l:List Int} (h:a≠0):cz (a::l)=a:=by rw[cz,if_pos h]
theorem bH {i n:Int} (h:0<=i/\i<=n-1):cL i n=0:=by rw[cL,if_neg (by omega)]
theorem bU {i n:Int} (h:¬(0<=i/\i<=n-1)):cL i n=5:=by rw[cL,if_pos (by omega)]
theorem kC (n:Int):bQ [] n=0:=by
 have h1:jC [] n:=fun j hj=>by simp at hj
 have h2:wL []:=fun j hj=>by simp at hj
 rw[bQ,if_pos h1,if_pos h2]
theorem fJ {α:Type} {l:List α} (h:¬0<l.length):l=[]:=List.eq_nil_of_length_eq_zero (by omega)
def u3 (p:au) (r:bp):List Int:=
 [cL r.src p.states.length,cL r.dst p.states.length,(if r.kind=2\/r.kind=5 then cL r.pfrom p.states.length else 0),(if r.kind=2\/r.kind=5 then cL r.pto p.states.length else 0),(if r.kind=3 then iJ r.response p.states.length else 0),
  aG p.messages.length r.guards,bQ r.some_ p.states.length,bQ r.forall_ p.states.length,ew p.values.length r.read,ew p.values.length r.write,bQ r.send p.messages.length,
  bQ r.left p.states.length,bQ r.right p.states.length,bQ r.parent p.states.length,(if r.kind=4 then BF r.at_ p.topology else 0),(if r.kind=5 then qL r.direction p.topology else 0)]
theorem BG (l m:List Int):cz (l++m)=if cz l≠0 then cz l else cz m:=by
 induction l with
 |nil=>simp[cz]
 |cons a l ih=>
  simp only[List.cons_append,cz]
  by_cases h:a=0
  ·simp[h,ih]
  ·simp[h]
theorem kD (a b:Int) (l:List Int):cz [a,b,cz l]=cz (a::b::l):=by
 simp only[cz]
 by_cases h:cz l=0<;>simp[h]
theorem EJ {p:au} {r:bp} (hf:fe r.kind p.topology) (hs:¬il r p.topology):cz (u3 p r)=cz [cL r.src p.states.length,cL r.dst p.states.length,c7 p r]:=by
 unfold fe at hf
 unfold il at hs
 have hg0:aG p.messages.length []=0:=by simp[aG,cz]
 have hv0:ew p.values.length (-1)=0:=by rw[ew,if_neg (by omega)]
 have hk:r.kind=1\/r.kind=2\/r.kind=3\/r.kind=4\/r.kind=5:=by omega
 rcases hk with k|k|k|k|k
 ·have a1:r.left=[]:=fJ (by omega)
  have a2:r.right=[]:=fJ (by omega)
  have a3:r.parent=[]:=fJ (by omega)
  rw[c7,if_pos k,kD,u3]
  simp only[k,a1,a2,a3,kC]
  simp[cz]
 ·have a1:r.left=[]:=fJ (by omega)
  have a2:r.right=[]:=fJ (by omega)
  have a3:r.parent=[]:=fJ (by omega)
  have a4:r.guards=[]:=fJ (by omega)
  have a5:r.some_=[]:=fJ (by omega)
  have a6:r.forall_=[]:=fJ (by omega)
  have a7:r.send=[]:=fJ (by omega)
  rw[c7,if_neg (by omega),if_pos k,kD,u3]
  simp only[k,a1,a2,a3,a4,a5,a6,a7,kC,hg0]
  simp[cz]
 ·have a1:r.left=[]:=fJ (by omega)
  have a2:r.right=[]:=fJ (by omega)
  have a3:r.parent=[]:=fJ (by omega)
  have a4:r.guards=[]:=fJ (by omega)
  have a5:r.some_=[]:=fJ (by omega)
  have a6:r.forall_=[]:=fJ (by omega)
  have a7:r.send=[]:=fJ (by omega)
  rw[c7,if_neg (by omega),if_neg (by omega),if_pos k,kD,u3]
  simp only[k,a1,a2,a3,a4,a5,a6,a7,kC,hg0]
  simp[cz]
 ·have a4:r.guards=[]:=fJ (by omega)
  have a5:r.some_=[]:=fJ (by omega)
  have a6:r.forall_=[]:=fJ (by omega)
  have a7:r.send=[]:=fJ (by omega)
  have a8:r.read=-1:=by omega
  have a9:r.write=-1:=by omega
  rw[c7,if_neg (by omega),if_neg (by omega),if_neg (by omega),if_pos k,kD,u3]
  simp only[k,a4,a5,a6,a7,a8,a9,kC,hg0,hv0]
  simp[cz]
 ·have a1:r.left=[]:=fJ (by omega)
  have a2:r.right=[]:=fJ (by omega)
  have a3:r.parent=[]:=fJ (by omega)
  have a4:r.guards=[]:=fJ (by omega)
  have a5:r.some_=[]:=fJ (by omega)
  have a6:r.forall_=[]:=fJ (by omega)
  have a7:r.send=[]:=fJ (by omega)
  have a8:r.read=-1:=by omega
  have a9:r.write=-1:=by omega
  rw[c7,if_neg (by omega),if_neg (by omega),if_neg (by omega),if_neg (by omega),kD,u3]
  simp only[k,a1,a2,a3,a4,a5,a6,a7,a8,a9,kC,hg0,hv0]
  simp[cz]
theorem rG {rs:List bp} {i:Nat} {r:bp} (hi:i<=rs.length):gy rs i r↔∃j,j<i/\(rs.getD j ar).name=r.name:=by
 have e:∀j,j<i->(rs.take i).getD j ar=rs.getD j ar:=fun j hj=>by
  rw[gD,List.getElem?_take,if_pos hj,<-gD]
 have hl:(rs.take i).length=i:=by simp;omega
 unfold gy
 rw[hl]
 constructor
 ·rintro⟨j,h1,h2⟩;exact⟨j,h1,by rw[<-e j h1];exact h2⟩
 ·rintro⟨j,h1,h2⟩;exact⟨j,h1,by rw[e j h1];exact h2⟩
theorem u4 {m:Int} {g:eg} (h1:0<=g.message/\g.message<=m-1) (h2:1<=g.coef/\g.coef<=100) (h3:c6 g.bound):gE m g=0:=by
 rw[gE,av (bH h1),av (by rw[eK,if_neg (by omega)]),av (by rw[je,if_pos h3])];rfl
theorem dY (m v:Int) (hm:0<=m):(v=-1/\ew m v=0)\/(v≠-1/\(0<=v/\v<=m-1)/\ew m v=0)\/(v≠-1/\¬(0<=v/\v<=m-1)/\ew m v=5):=by
 unfold ew
 by_cases h1:v=-1
 ·left;exact⟨h1,if_neg (by omega)⟩
 ·by_cases h2:0<=v/\v<=m-1
  ·right;left;exact⟨h1,h2,if_neg (by omega)⟩
  ·right;right;exact⟨h1,h2,if_pos (by omega)⟩
theorem IZ (p:au) (i:Nat) (hp:gM p) (hi:i<p.rules.length):ab Tryz.prog 208 [.agg (aO p), .int .i64 (i:Int)] (fun u=>u= .int .i64 (cg p i (p.rules.getD i ar))):=by
 have hle:=iT hp
 have hbr:=uR hp hi
 refine ab.intro ac ag Tryz.func208 rfl (by decide) ?_;(conv=>whnf)
 refine al rfl ?_
 conv=>whnf
 refine dP ?_
 conv=>whnf
 refine nI ?_
 rw[tN]
 generalize p.rules.getD i ar=r at hbr
 have hrl:=wK hbr
 conv=>whnf
 refine dC (jD r.name (by omega)) (fun _=>?_) (fun _=>?_)<;>(conv=>whnf)
 case refine_2=>rename_i hv;exact⟨ae (by rw[cg,if_pos (.inl hv)]),rfl⟩
 rename_i hv
 refine aH.loopF ac ag (fun k:Nat=>k<=i/\∀j,j<k->(p.rules.getD j ar).name≠r.name) (fun k=>[(7, .int .i64 (k:Int))]) (fun _=>[(5, .box 143 (dF r))]) (fun k=>i-k) 0 ⟨by omega,fun j hj=>by omega⟩ ?_;conv=>whnf
 refine⟨sI,?_⟩
 rintro k ⟨hk,ha⟩
 conv=>whnf
 refine ah ?_ ?_<;>(intro h1;conv=>whnf)
 ·refine dI ?_
  conv=>whnf
  refine nI ?_
  rw[tN]
  conv=>whnf
  refine ah ?_ ?_<;>(intro h2;conv=>whnf)
  ·exact⟨ae (by rw[cg,if_pos (.inr ((rG (by omega)).2 ⟨k,by omega,h2⟩))]),rfl⟩
  ·repeat' ((first|refine nI ?_|refine aI ?_|refine dz trivial (by omega) ?_|refine dV trivial (by omega) ?_|refine dI ?_|refine dR ?_|refine dP ?_|refine al rfl ?_|refine pI _ rfl ?_|refine ap _ rfl ?_|refine tI ?_|refine fI ?_|refine ah (fun _=>?_) (fun _=>?_))<;>conv=>whnf)
   refine⟨k+1,sI,⟨by omega,fun j hj=>?_⟩,by dsimp only;omega⟩
   by_cases e:j=k
   ·subst e;exact h2
   ·exact ha j (by omega)
 have hnt:¬gy p.rules i r:=fun h=>by
  obtain⟨j,h2,h3⟩:=(rG (by omega)).1 h
  exact ha j (by omega) h3
 have e1:∀x,(if¬cx r.name\/gy p.rules i r then(2:Int) else x)=x:=fun x=>if_neg (by rintro(h|h);exact h hv;exact hnt h)
 by_cases hf:fe r.kind p.topology
 case neg=>
  have hE:cg p i r=6:=by rw[cg,e1,if_pos (.inl hf)]
  unfold fe at hf
  refine dC (ax _ _ _) (fun _=>?_) (fun _=>?_)<;>(conv=>whnf)
  ·repeat' ((first|refine nI ?_|refine aI ?_|refine dz trivial (by omega) ?_|refine dV trivial (by omega) ?_|refine dI ?_|refine dR ?_|refine dP ?_|refine al rfl ?_|refine pI _ rfl ?_|refine ap _ rfl ?_|refine tI ?_|refine fI ?_|refine ah (fun _=>?_) (fun _=>?_))<;>conv=>whnf)
   all_goals exact⟨ae hE.symm,rfl⟩
  ·exact⟨ae hE.symm,rfl⟩
 by_cases hs:il r p.topology
 case pos=>
  have hE:cg p i r=6:=by rw[cg,e1,if_pos (.inr hs)]
  have ff:=hf
  unfold fe at ff
  refine dC (ax _ _ _) (fun _=>?_) (fun _=>?_)<;>(conv=>whnf)
  ·repeat' ((first|refine nI ?_|refine aI ?_|refine dz trivial (by omega) ?_|refine dV trivial (by omega) ?_|refine dI ?_|refine dR ?_|refine dP ?_|refine al rfl ?_|refine pI _ rfl ?_|refine ap _ rfl ?_|refine tI ?_|refine fI ?_|refine ah (fun _=>?_) (fun _=>?_))<;>conv=>whnf)
   all_goals
    refine dC (kY p r hf) (fun _=>?_) (fun _=>?_)<;>(conv=>whnf)
    ·exact⟨ae hE.symm,rfl⟩
    ·rename_i h;exact absurd hs h
  ·exact⟨ae hE.symm,rfl⟩
 have he:cg p i r=cz (u3 p r):=by rw[cg,e1,if_neg (by rintro(h|h);exact h hf;exact hs h),EJ hf hs]
 have ff:=hf
 unfold fe at ff
 have ss:=hs
 unfold il at ss
 unfold u3 at he
 have hk:r.kind=1\/r.kind=2\/r.kind=3\/r.kind=4\/r.kind=5:=by omega
 rcases hk with k|k|k|k|k
 ·rw[if_neg (by omega),if_neg (by omega),if_neg (by omega),if_neg (by omega),if_neg (by omega)] at he
  refine dC (ax _ _ _) (fun _=>?_) (fun _=>?_)<;>(conv=>whnf)
  case refine_2=>rename_i h;omega
  repeat' ((first|refine nI ?_|refine aI ?_|refine tI ?_|refine fI ?_|fail);conv=>whnf)
  refine dC (kY p r hf) (fun _=>?_) (fun _=>?_)<;>(conv=>whnf)
  ·rename_i h;exact absurd h hs
  repeat' ((first|refine nI ?_|refine aI ?_|refine tI ?_|refine fI ?_|fail);conv=>whnf)
  refine dC (ax _ _ _) (fun _=>?_) (fun _=>?_)<;>(conv=>whnf)
  case refine_2=>rename_i h;exact⟨ae (by rw[he,cS (bU h)]),rfl⟩
  rename_i h
  rw[av (bH h)] at he
  clear h
  repeat' ((first|refine nI ?_|refine aI ?_|refine tI ?_|refine fI ?_|fail);conv=>whnf)
  refine dC (ax _ _ _) (fun _=>?_) (fun _=>?_)<;>(conv=>whnf)
  case refine_2=>rename_i h;exact⟨ae (by rw[he,cS (bU h)]),rfl⟩
  rename_i h
  rw[av (bH h)] at he
  clear h
  rw[av rfl,av rfl,av rfl] at he
  repeat' ((first|refine nI ?_|refine aI ?_|refine tI ?_|refine fI ?_|fail);conv=>whnf)
  refine aH.loopF ac ag (fun j:Nat=>j<=r.guards.length/\cz (r.guards.map (gE p.messages.length))=cz ((r.guards.drop j).map (gE p.messages.length))) (fun j=>[(10, .int .i64 (j:Int))]) (fun _=>[(5, .box 143 (dF r))]) (fun j=>r.guards.length-j) 0 ⟨by omega,rfl⟩ ?_;conv=>whnf
  refine⟨sI,?_⟩
  rintro j ⟨hj,hjo⟩
  conv=>whnf
  refine ah ?_ ?_<;>(intro h1;conv=>whnf)
  ·refine nI ?_
   rw[tN]
   rw[cf _ aE (by omega)] at hjo
   generalize r.guards.getD j aE=g at hjo
   conv=>whnf
   repeat' ((first|refine nI ?_|refine aI ?_|refine tI ?_|refine fI ?_|fail);conv=>whnf)
   have bad:∀x:Int,x≠0->gE p.messages.length g=x->cg p i r=x:=fun x hx hg=>by
    rw[hg,if_pos hx] at hjo
    have hge:aG p.messages.length r.guards=x:=by rw[aG,hjo,if_pos hx]
    rw[he,aw (by rw[hge];exact hx),hge]
   refine dC (ax _ _ _) (fun _=>?_) (fun _=>?_)<;>(conv=>whnf)
   case refine_2=>rename_i h;exact⟨ae (bad 5 (by decide) (by rw[gE,cS (bU h)])).symm,rfl⟩
   rename_i g1
   refine dC (ax _ _ _) (fun _=>?_) (fun _=>?_)<;>(conv=>whnf)
   case refine_2=>rename_i h;exact⟨ae (bad 1 (by decide) (by rw[gE,av (bH g1),eK,if_pos (by omega),aw (by decide)])).symm,rfl⟩
   rename_i g2
   refine dC (wM g.bound) (fun _=>?_) (fun _=>?_)<;>(conv=>whnf)
   case refine_2=>rename_i h;exact⟨ae (bad 4 (by decide) (by rw[gE,av (bH g1),eK,if_neg (by omega),av rfl,je,if_neg h,aw (by decide)])).symm,rfl⟩
   rename_i g3
   rw[if_neg (by rw[u4 g1 g2 g3];simp)] at hjo
   repeat' ((first|refine nI ?_|refine aI ?_|refine tI ?_|refine fI ?_|fail);conv=>whnf)
   exact⟨j+1,sI,⟨by omega,hjo⟩,by dsimp only;omega⟩
  obtain rfl:j=r.guards.length:=by omega
  rw[List.drop_length] at hjo
  have hjo:cz (r.guards.map (gE p.messages.length))=0:=hjo
  refine ah ?_ ?_<;>(intro hx;conv=>whnf)
  ·exact⟨ae (by rw[he,aG,hjo,if_neg (by simp),if_pos (by omega),aw (by decide)]),rfl⟩
  rw[aG,hjo,if_neg (by simp),if_neg (by omega),av rfl] at he
  repeat' ((first|refine nI ?_|refine aI ?_|refine tI ?_|refine fI ?_|fail);conv=>whnf)
  (refine oP (bk r.some_ _ (by omega) (by omega)) ?_;conv=>whnf)
  refine ah ?_ ?_<;>(intro hx;conv=>whnf)
  ·exact⟨ae (by rw[he,aw hx]),rfl⟩
  rw[av (by omega)] at he
  repeat' ((first|refine nI ?_|refine aI ?_|refine tI ?_|refine fI ?_|fail);conv=>whnf)
  (refine oP (bk r.forall_ _ (by omega) (by omega)) ?_;conv=>whnf)
  refine ah ?_ ?_<;>(intro hx;conv=>whnf)
  ·exact⟨ae (by rw[he,aw hx]),rfl⟩
  rw[av (by omega)] at he
  rcases dY p.values.length r.read (by omega) with ⟨v1,v2⟩|⟨v1,v2,v3⟩|⟨v1,v2,v3⟩
  ·repeat' ((first|refine nI ?_|refine aI ?_|refine tI ?_|refine fI ?_|fail);conv=>whnf)
   rw[av v2] at he
   rcases dY p.values.length r.write (by omega) with ⟨w1,w2⟩|⟨w1,w2,w3⟩|⟨w1,w2,w3⟩
   ·repeat' ((first|refine nI ?_|refine aI ?_|refine tI ?_|refine fI ?_|fail);conv=>whnf)
    rw[av w2] at he
    repeat' ((first|refine nI ?_|refine aI ?_|refine tI ?_|refine fI ?_|fail);conv=>whnf)
    (refine oP (bk r.send _ (by omega) (by omega)) ?_;conv=>whnf)
    refine ah ?_ ?_<;>(intro hx;conv=>whnf)
    ·exact⟨ae (by rw[he,aw hx]),rfl⟩
    rw[av (by omega)] at he
    repeat' ((first|refine nI ?_|refine aI ?_|refine tI ?_|refine fI ?_|fail);conv=>whnf)
    (refine oP (bk r.left _ (by omega) (by omega)) ?_;conv=>whnf)
    refine ah ?_ ?_<;>(intro hx;conv=>whnf)
    ·exact⟨ae (by rw[he,aw hx]),rfl⟩
    rw[av (by omega)] at he
    repeat' ((first|refine nI ?_|refine aI ?_|refine tI ?_|refine fI ?_|fail);conv=>whnf)
    (refine oP (bk r.right _ (by omega) (by omega)) ?_;conv=>whnf)
    refine ah ?_ ?_<;>(intro hx;conv=>whnf)
    ·exact⟨ae (by rw[he,aw hx]),rfl⟩
    rw[av (by omega)] at he
    repeat' ((first|refine nI ?_|refine aI ?_|refine tI ?_|refine fI ?_|fail);conv=>whnf)
    (refine oP (bk r.parent _ (by omega) (by omega)) ?_;conv=>whnf)
    refine ah ?_ ?_<;>(intro hx;conv=>whnf)
    ·exact⟨ae (by rw[he,aw hx]),rfl⟩
    rw[av (by omega)] at he
    repeat' ((first|refine nI ?_|refine aI ?_|refine tI ?_|refine fI ?_|fail);conv=>whnf)
    exact⟨ae (by rw[he];rfl),rfl⟩
   ·repeat' ((first|refine nI ?_|refine aI ?_|refine tI ?_|refine fI ?_|fail);conv=>whnf)
    refine dC (ax _ _ _) (fun _=>?_) (fun _=>?_)<;>(conv=>whnf)
    case refine_2=>rename_i h;exact absurd w2 h
    rename_i h
    clear h
    rw[av w3] at he
    repeat' ((first|refine nI ?_|refine aI ?_|refine tI ?_|refine fI ?_|fail);conv=>whnf)
    (refine oP (bk r.send _ (by omega) (by omega)) ?_;conv=>whnf)
    refine ah ?_ ?_<;>(intro hx;conv=>whnf)
    ·exact⟨ae (by rw[he,aw hx]),rfl⟩
    rw[av (by omega)] at he
    repeat' ((first|refine nI ?_|refine aI ?_|refine tI ?_|refine fI ?_|fail);conv=>whnf)
    (refine oP (bk r.left _ (by omega) (by omega)) ?_;conv=>whnf)
    refine ah ?_ ?_<;>(intro hx;conv=>whnf)
    ·exact⟨ae (by rw[he,aw hx]),rfl⟩
    rw[av (by omega)] at he
    repeat' ((first|refine nI ?_|refine aI ?_|refine tI ?_|refine fI ?_|fail);conv=>whnf)
    (refine oP (bk r.right _ (by omega) (by omega)) ?_;conv=>whnf)
    refine ah ?_ ?_<;>(intro hx;conv=>whnf)
    ·exact⟨ae (by rw[he,aw hx]),rfl⟩
    rw[av (by omega)] at he
    repeat' ((first|refine nI ?_|refine aI ?_|refine tI ?_|refine fI ?_|fail);conv=>whnf)
    (refine oP (bk r.parent _ (by omega) (by omega)) ?_;conv=>whnf)
    refine ah ?_ ?_<;>(intro hx;conv=>whnf)
    ·exact⟨ae (by rw[he,aw hx]),rfl⟩
    rw[av (by omega)] at he
    repeat' ((first|refine nI ?_|refine aI ?_|refine tI ?_|refine fI ?_|fail);conv=>whnf)
    exact⟨ae (by rw[he];rfl),rfl⟩
   ·repeat' ((first|refine nI ?_|refine aI ?_|refine tI ?_|refine fI ?_|fail);conv=>whnf)
    refine dC (ax _ _ _) (fun _=>?_) (fun _=>?_)<;>(conv=>whnf)
    ·rename_i h;exact absurd h w2
    ·exact⟨ae (by rw[he,cS w3]),rfl⟩
  ·repeat' ((first|refine nI ?_|refine aI ?_|refine tI ?_|refine fI ?_|fail);conv=>whnf)
   refine dC (ax _ _ _) (fun _=>?_) (fun _=>?_)<;>(conv=>whnf)
   case refine_2=>rename_i h;exact absurd v2 h
   rename_i h
   clear h
   rw[av v3] at he
   rcases dY p.values.length r.write (by omega) with ⟨w1,w2⟩|⟨w1,w2,w3⟩|⟨w1,w2,w3⟩
   ·repeat' ((first|refine nI ?_|refine aI ?_|refine tI ?_|refine fI ?_|fail);conv=>whnf)
    rw[av w2] at he
    repeat' ((first|refine nI ?_|refine aI ?_|refine tI ?_|refine fI ?_|fail);conv=>whnf)
    (refine oP (bk r.send _ (by omega) (by omega)) ?_;conv=>whnf)
    refine ah ?_ ?_<;>(intro hx;conv=>whnf)
    ·exact⟨ae (by rw[he,aw hx]),rfl⟩
    rw[av (by omega)] at he
    repeat' ((first|refine nI ?_|refine aI ?_|refine tI ?_|refine fI ?_|fail);conv=>whnf)
    (refine oP (bk r.left _ (by omega) (by omega)) ?_;conv=>whnf)
    refine ah ?_ ?_<;>(intro hx;conv=>whnf)
    ·exact⟨ae (by rw[he,aw hx]),rfl⟩
    rw[av (by omega)] at he
    repeat' ((first|refine nI ?_|refine aI ?_|refine tI ?_|refine fI ?_|fail);conv=>whnf)
    (refine oP (bk r.right _ (by omega) (by omega)) ?_;conv=>whnf)
    refine ah ?_ ?_<;>(intro hx;conv=>whnf)
    ·exact⟨ae (by rw[he,aw hx]),rfl⟩
    rw[av (by omega)] at he
    repeat' ((first|refine nI ?_|refine aI ?_|refine tI ?_|refine fI ?_|fail);conv=>whnf)
    (refine oP (bk r.parent _ (by omega) (by omega)) ?_;conv=>whnf)
    refine ah ?_ ?_<;>(intro hx;conv=>whnf)
    ·exact⟨ae (by rw[he,aw hx]),rfl⟩
    rw[av (by omega)] at he
    repeat' ((first|refine nI ?_|refine aI ?_|refine tI ?_|refine fI ?_|fail);conv=>whnf)
    exact⟨ae (by rw[he];rfl),rfl⟩
   ·repeat' ((first|refine nI ?_|refine aI ?_|refine tI ?_|refine fI ?_|fail);conv=>whnf)
    refine dC (ax _ _ _) (fun _=>?_) (fun _=>?_)<;>(conv=>whnf)
    case refine_2=>rename_i h;exact absurd w2 h
    rename_i h
    clear h
    rw[av w3] at he
    repeat' ((first|refine nI ?_|refine aI ?_|refine tI ?_|refine fI ?_|fail);conv=>whnf)
    (refine oP (bk r.send _ (by omega) (by omega)) ?_;conv=>whnf)
    refine ah ?_ ?_<;>(intro hx;conv=>whnf)
    ·exact⟨ae (by rw[he,aw hx]),rfl⟩
    rw[av (by omega)] at he
    repeat' ((first|refine nI ?_|refine aI ?_|refine tI ?_|refine fI ?_|fail);conv=>whnf)
    (refine oP (bk r.left _ (by omega) (by omega)) ?_;conv=>whnf)
    refine ah ?_ ?_<;>(intro hx;conv=>whnf)
    ·exact⟨ae (by rw[he,aw hx]),rfl⟩
    rw[av (by omega)] at he
    repeat' ((first|refine nI ?_|refine aI ?_|refine tI ?_|refine fI ?_|fail);conv=>whnf)
    (refine oP (bk r.right _ (by omega) (by omega)) ?_;conv=>whnf)
    refine ah ?_ ?_<;>(intro hx;conv=>whnf)
    ·exact⟨ae (by rw[he,aw hx]),rfl⟩
    rw[av (by omega)] at he
    repeat' ((first|refine nI ?_|refine aI ?_|refine tI ?_|refine fI ?_|fail);conv=>whnf)
    (refine oP (bk r.parent _ (by omega) (by omega)) ?_;conv=>whnf)
    refine ah ?_ ?_<;>(intro hx;conv=>whnf)
    ·exact⟨ae (by rw[he,aw hx]),rfl⟩
    rw[av (by omega)] at he
    repeat' ((first|refine nI ?_|refine aI ?_|refine tI ?_|refine fI ?_|fail);conv=>whnf)
    exact⟨ae (by rw[he];rfl),rfl⟩
   ·repeat' ((first|refine nI ?_|refine aI ?_|refine tI ?_|refine fI ?_|fail);conv=>whnf)
    refine dC (ax _ _ _) (fun _=>?_) (fun _=>?_)<;>(conv=>whnf)
    ·rename_i h;exact absurd h w2
    ·exact⟨ae (by rw[he,cS w3]),rfl⟩
  ·repeat' ((first|refine nI ?_|refine aI ?_|refine tI ?_|refine fI ?_|fail);conv=>whnf)
   refine dC (ax _ _ _) (fun _=>?_) (fun _=>?_)<;>(conv=>whnf)
   ·rename_i h;exact absurd h v2
   ·exact⟨ae (by rw[he,cS v3]),rfl⟩
 ·rw[if_pos (.inl k),if_pos (.inl k),if_neg (by omega),if_neg (by omega),if_neg (by omega)] at he
  refine dC (ax _ _ _) (fun _=>?_) (fun _=>?_)<;>(conv=>whnf)
  case refine_2=>rename_i h;omega
  repeat' ((first|refine nI ?_|refine aI ?_|refine tI ?_|refine fI ?_|fail);conv=>whnf)
  refine dC (kY p r hf) (fun _=>?_) (fun _=>?_)<;>(conv=>whnf)
  ·rename_i h;exact absurd h hs
  repeat' ((first|refine nI ?_|refine aI ?_|refine tI ?_|refine fI ?_|fail);conv=>whnf)
  refine dC (ax _ _ _) (fun _=>?_) (fun _=>?_)<;>(conv=>whnf)
  case refine_2=>rename_i h;exact⟨ae (by rw[he,cS (bU h)]),rfl⟩
  rename_i h
  rw[av (bH h)] at he
  clear h
  repeat' ((first|refine nI ?_|refine aI ?_|refine tI ?_|refine fI ?_|fail);conv=>whnf)
  refine dC (ax _ _ _) (fun _=>?_) (fun _=>?_)<;>(conv=>whnf)
  case refine_2=>rename_i h;exact⟨ae (by rw[he,cS (bU h)]),rfl⟩
  rename_i h
  rw[av (bH h)] at he
  clear h
  repeat' ((first|refine nI ?_|refine aI ?_|refine tI ?_|refine fI ?_|fail);conv=>whnf)
  refine dC (ax _ _ _) (fun _=>?_) (fun _=>?_)<;>(conv=>whnf)
  case refine_2=>rename_i h;exact⟨ae (by rw[he,cS (bU h)]),rfl⟩
  rename_i h
  rw[av (bH h)] at he
  clear h
  repeat' ((first|refine nI ?_|refine aI ?_|refine tI ?_|refine fI ?_|fail);conv=>whnf)
  refine dC (ax _ _ _) (fun _=>?_) (fun _=>?_)<;>(conv=>whnf)
  case refine_2=>rename_i h;exact⟨ae (by rw[he,cS (bU h)]),rfl⟩
  rename_i h
  rw[av (bH h)] at he
  clear h
  rw[av rfl] at he
  repeat' ((first|refine nI ?_|refine aI ?_|refine tI ?_|refine fI ?_|fail);conv=>whnf)
  refine aH.loopF ac ag (fun j:Nat=>j<=r.guards.length/\cz (r.guards.map (gE p.messages.length))=cz ((r.guards.drop j).map (gE p.messages.length))) (fun j=>[(10, .int .i64 (j:Int))]) (fun _=>[(5, .box 143 (dF r))]) (fun j=>r.guards.length-j) 0 ⟨by omega,rfl⟩ ?_;conv=>whnf
  refine⟨sI,?_⟩
  rintro j ⟨hj,hjo⟩
  conv=>whnf
  refine ah ?_ ?_<;>(intro h1;conv=>whnf)
  ·refine nI ?_
   rw[tN]
   rw[cf _ aE (by omega)] at hjo
   generalize r.guards.getD j aE=g at hjo
   conv=>whnf
   repeat' ((first|refine nI ?_|refine aI ?_|refine tI ?_|refine fI ?_|fail);conv=>whnf)
   have bad:∀x:Int,x≠0->gE p.messages.length g=x->cg p i r=x:=fun x hx hg=>by
    rw[hg,if_pos hx] at hjo
    have hge:aG p.messages.length r.guards=x:=by rw[aG,hjo,if_pos hx]
    rw[he,aw (by rw[hge];exact hx),hge]
   refine dC (ax _ _ _) (fun _=>?_) (fun _=>?_)<;>(conv=>whnf)
   case refine_2=>rename_i h;exact⟨ae (bad 5 (by decide) (by rw[gE,cS (bU h)])).symm,rfl⟩
   rename_i g1
   refine dC (ax _ _ _) (fun _=>?_) (fun _=>?_)<;>(conv=>whnf)
   case refine_2=>rename_i h;exact⟨ae (bad 1 (by decide) (by rw[gE,av (bH g1),eK,if_pos (by omega),aw (by decide)])).symm,rfl⟩
   rename_i g2
   refine dC (wM g.bound) (fun _=>?_) (fun _=>?_)<;>(conv=>whnf)
   case refine_2=>rename_i h;exact⟨ae (bad 4 (by decide) (by rw[gE,av (bH g1),eK,if_neg (by omega),av rfl,je,if_neg h,aw (by decide)])).symm,rfl⟩
   rename_i g3
   rw[if_neg (by rw[u4 g1 g2 g3];simp)] at hjo
   repeat' ((first|refine nI ?_|refine aI ?_|refine tI ?_|refine fI ?_|fail);conv=>whnf)
   exact⟨j+1,sI,⟨by omega,hjo⟩,by dsimp only;omega⟩
  obtain rfl:j=r.guards.length:=by omega
  rw[List.drop_length] at hjo
  have hjo:cz (r.guards.map (gE p.messages.length))=0:=hjo
  refine ah ?_ ?_<;>(intro hx;conv=>whnf)
  ·exact⟨ae (by rw[he,aG,hjo,if_neg (by simp),if_pos (by omega),aw (by decide)]),rfl⟩
  rw[aG,hjo,if_neg (by simp),if_neg (by omega),av rfl] at he
  repeat' ((first|refine nI ?_|refine aI ?_|refine tI ?_|refine fI ?_|fail);conv=>whnf)
  (refine oP (bk r.some_ _ (by omega) (by omega)) ?_;conv=>whnf)
  refine ah ?_ ?_<;>(intro hx;conv=>whnf)
  ·exact⟨ae (by rw[he,aw hx]),rfl⟩
  rw[av (by omega)] at he
  repeat' ((first|refine nI ?_|refine aI ?_|refine tI ?_|refine fI ?_|fail);conv=>whnf)
  (refine oP (bk r.forall_ _ (by omega) (by omega)) ?_;conv=>whnf)
  refine ah ?_ ?_<;>(intro hx;conv=>whnf)
  ·exact⟨ae (by rw[he,aw hx]),rfl⟩
  rw[av (by omega)] at he
  rcases dY p.values.length r.read (by omega) with ⟨v1,v2⟩|⟨v1,v2,v3⟩|⟨v1,v2,v3⟩
  ·repeat' ((first|refine nI ?_|refine aI ?_|refine tI ?_|refine fI ?_|fail);conv=>whnf)
   rw[av v2] at he
   rcases dY p.values.length r.write (by omega) with ⟨w1,w2⟩|⟨w1,w2,w3⟩|⟨w1,w2,w3⟩
   ·repeat' ((first|refine nI ?_|refine aI ?_|refine tI ?_|refine fI ?_|fail);conv=>whnf)
    rw[av w2] at he
    repeat' ((first|refine nI ?_|refine aI ?_|refine tI ?_|refine fI ?_|fail);conv=>whnf)
    (refine oP (bk r.send _ (by omega) (by omega)) ?_;conv=>whnf)
    refine ah ?_ ?_<;>(intro hx;conv=>whnf)
    ·exact⟨ae (by rw[he,aw hx]),rfl⟩
    rw[av (by omega)] at he
    repeat' ((first|refine nI ?_|refine aI ?_|refine tI ?_|refine fI ?_|fail);conv=>whnf)
    (refine oP (bk r.left _ (by omega) (by omega)) ?_;conv=>whnf)
    refine ah ?_ ?_<;>(intro hx;conv=>whnf)
    ·exact⟨ae (by rw[he,aw hx]),rfl⟩
    rw[av (by omega)] at he
    repeat' ((first|refine nI ?_|refine aI ?_|refine tI ?_|refine fI ?_|fail);conv=>whnf)
    (refine oP (bk r.right _ (by omega) (by omega)) ?_;conv=>whnf)
    refine ah ?_ ?_<;>(intro hx;conv=>whnf)
    ·exact⟨ae (by rw[he,aw hx]),rfl⟩
    rw[av (by omega)] at he
    repeat' ((first|refine nI ?_|refine aI ?_|refine tI ?_|refine fI ?_|fail);conv=>whnf)
    (refine oP (bk r.parent _ (by omega) (by omega)) ?_;conv=>whnf)
    refine ah ?_ ?_<;>(intro hx;conv=>whnf)
    ·exact⟨ae (by rw[he,aw hx]),rfl⟩
    rw[av (by omega)] at he
    repeat' ((first|refine nI ?_|refine aI ?_|refine tI ?_|refine fI ?_|fail);conv=>whnf)
    exact⟨ae (by rw[he];rfl),rfl⟩
   ·repeat' ((first|refine nI ?_|refine aI ?_|refine tI ?_|refine fI ?_|fail);conv=>whnf)
    refine dC (ax _ _ _) (fun _=>?_) (fun _=>?_)<;>(conv=>whnf)
    case refine_2=>rename_i h;exact absurd w2 h
    rename_i h
    clear h
    rw[av w3] at he
    repeat' ((first|refine nI ?_|refine aI ?_|refine tI ?_|refine fI ?_|fail);conv=>whnf)
    (refine oP (bk r.send _ (by omega) (by omega)) ?_;conv=>whnf)
    refine ah ?_ ?_<;>(intro hx;conv=>whnf)
    ·exact⟨ae (by rw[he,aw hx]),rfl⟩
    rw[av (by omega)] at he
    repeat' ((first|refine nI ?_|refine aI ?_|refine tI ?_|refine fI ?_|fail);conv=>whnf)
    (refine oP (bk r.left _ (by omega) (by omega)) ?_;conv=>whnf)
    refine ah ?_ ?_<;>(intro hx;conv=>whnf)
    ·exact⟨ae (by rw[he,aw hx]),rfl⟩
    rw[av (by omega)] at he
    repeat' ((first|refine nI ?_|refine aI ?_|refine tI ?_|refine fI ?_|fail);conv=>whnf)
    (refine oP (bk r.right _ (by omega) (by omega)) ?_;conv=>whnf)
    refine ah ?_ ?_<;>(intro hx;conv=>whnf)
    ·exact⟨ae (by rw[he,aw hx]),rfl⟩
    rw[av (by omega)] at he
    repeat' ((first|refine nI ?_|refine aI ?_|refine tI ?_|refine fI ?_|fail);conv=>whnf)
    (refine oP (bk r.parent _ (by omega) (by omega)) ?_;conv=>whnf)
    refine ah ?_ ?_<;>(intro hx;conv=>whnf)
    ·exact⟨ae (by rw[he,aw hx]),rfl⟩
    rw[av (by omega)] at he
    repeat' ((first|refine nI ?_|refine aI ?_|refine tI ?_|refine fI ?_|fail);conv=>whnf)
    exact⟨ae (by rw[he];rfl),rfl⟩
   ·repeat' ((first|refine nI ?_|refine aI ?_|refine tI ?_|refine fI ?_|fail);conv=>whnf)
    refine dC (ax _ _ _) (fun _=>?_) (fun _=>?_)<;>(conv=>whnf)
    ·rename_i h;exact absurd h w2
    ·exact⟨ae (by rw[he,cS w3]),rfl⟩
  ·repeat' ((first|refine nI ?_|refine aI ?_|refine tI ?_|refine fI ?_|fail);conv=>whnf)
   refine dC (ax _ _ _) (fun _=>?_) (fun _=>?_)<;>(conv=>whnf)
   case refine_2=>rename_i h;exact absurd v2 h
   rename_i h
   clear h
   rw[av v3] at he
   rcases dY p.values.length r.write (by omega) with ⟨w1,w2⟩|⟨w1,w2,w3⟩|⟨w1,w2,w3⟩
   ·repeat' ((first|refine nI ?_|refine aI ?_|refine tI ?_|refine fI ?_|fail);conv=>whnf)
    rw[av w2] at he
    repeat' ((first|refine nI ?_|refine aI ?_|refine tI ?_|refine fI ?_|fail);conv=>whnf)
    (refine oP (bk r.send _ (by omega) (by omega)) ?_;conv=>whnf)
    refine ah ?_ ?_<;>(intro hx;conv=>whnf)
    ·exact⟨ae (by rw[he,aw hx]),rfl⟩
    rw[av (by omega)] at he
    repeat' ((first|refine nI ?_|refine aI ?_|refine tI ?_|refine fI ?_|fail);conv=>whnf)
    (refine oP (bk r.left _ (by omega) (by omega)) ?_;conv=>whnf)
    refine ah ?_ ?_<;>(intro hx;conv=>whnf)
    ·exact⟨ae (by rw[he,aw hx]),rfl⟩
    rw[av (by omega)] at he
    repeat' ((first|refine nI ?_|refine aI ?_|refine tI ?_|refine fI ?_|fail);conv=>whnf)
    (refine oP (bk r.right _ (by omega) (by omega)) ?_;conv=>whnf)
    refine ah ?_ ?_<;>(intro hx;conv=>whnf)
    ·exact⟨ae (by rw[he,aw hx]),rfl⟩
    rw[av (by omega)] at he
    repeat' ((first|refine nI ?_|refine aI ?_|refine tI ?_|refine fI ?_|fail);conv=>whnf)
    (refine oP (bk r.parent _ (by omega) (by omega)) ?_;conv=>whnf)
    refine ah ?_ ?_<;>(intro hx;conv=>whnf)
    ·exact⟨ae (by rw[he,aw hx]),rfl⟩
    rw[av (by omega)] at he
    repeat' ((first|refine nI ?_|refine aI ?_|refine tI ?_|refine fI ?_|fail);conv=>whnf)
    exact⟨ae (by rw[he];rfl),rfl⟩
   ·repeat' ((first|refine nI ?_|refine aI ?_|refine tI ?_|refine fI ?_|fail);conv=>whnf)
    refine dC (ax _ _ _) (fun _=>?_) (fun _=>?_)<;>(conv=>whnf)
    case refine_2=>rename_i h;exact absurd w2 h
    rename_i h
    clear h
    rw[av w3] at he
    repeat' ((first|refine nI ?_|refine aI ?_|refine tI ?_|refine fI ?_|fail);conv=>whnf)
    (refine oP (bk r.send _ (by omega) (by omega)) ?_;conv=>whnf)
    refine ah ?_ ?_<;>(intro hx;conv=>whnf)
    ·exact⟨ae (by rw[he,aw hx]),rfl⟩
    rw[av (by omega)] at he
    repeat' ((first|refine nI ?_|refine aI ?_|refine tI ?_|refine fI ?_|fail);conv=>whnf)
    (refine oP (bk r.left _ (by omega) (by omega)) ?_;conv=>whnf)
    refine ah ?_ ?_<;>(intro hx;conv=>whnf)
    ·exact⟨ae (by rw[he,aw hx]),rfl⟩
    rw[av (by omega)] at he
    repeat' ((first|refine nI ?_|refine aI ?_|refine tI ?_|refine fI ?_|fail);conv=>whnf)
    (refine oP (bk r.right _ (by omega) (by omega)) ?_;conv=>whnf)
    refine ah ?_ ?_<;>(intro hx;conv=>whnf)
    ·exact⟨ae (by rw[he,aw hx]),rfl⟩
    rw[av (by omega)] at he
    repeat' ((first|refine nI ?_|refine aI ?_|refine tI ?_|refine fI ?_|fail);conv=>whnf)
    (refine oP (bk r.parent _ (by omega) (by omega)) ?_;conv=>whnf)
    refine ah ?_ ?_<;>(intro hx;conv=>whnf)
    ·exact⟨ae (by rw[he,aw hx]),rfl⟩
    rw[av (by omega)] at he
    repeat' ((first|refine nI ?_|refine aI ?_|refine tI ?_|refine fI ?_|fail);conv=>whnf)
    exact⟨ae (by rw[he];rfl),rfl⟩
   ·repeat' ((first|refine nI ?_|refine aI ?_|refine tI ?_|refine fI ?_|fail);conv=>whnf)
    refine dC (ax _ _ _) (fun _=>?_) (fun _=>?_)<;>(conv=>whnf)
    ·rename_i h;exact absurd h w2
    ·exact⟨ae (by rw[he,cS w3]),rfl⟩
  ·repeat' ((first|refine nI ?_|refine aI ?_|refine tI ?_|refine fI ?_|fail);conv=>whnf)
   refine dC (ax _ _ _) (fun _=>?_) (fun _=>?_)<;>(conv=>whnf)
   ·rename_i h;exact absurd h v2
   ·exact⟨ae (by rw[he,cS v3]),rfl⟩
 ·rw[if_neg (by omega),if_neg (by omega),if_pos k,if_neg (by omega),if_neg (by omega)] at he
  refine dC (ax _ _ _) (fun _=>?_) (fun _=>?_)<;>(conv=>whnf)
  case refine_2=>rename_i h;omega
  repeat' ((first|refine nI ?_|refine aI ?_|refine tI ?_|refine fI ?_|fail);conv=>whnf)
  refine dC (kY p r hf) (fun _=>?_) (fun _=>?_)<;>(conv=>whnf)
  ·rename_i h;exact absurd h hs
  repeat' ((first|refine nI ?_|refine aI ?_|refine tI ?_|refine fI ?_|fail);conv=>whnf)
  refine dC (ax _ _ _) (fun _=>?_) (fun _=>?_)<;>(conv=>whnf)
  case refine_2=>rename_i h;exact⟨ae (by rw[he,cS (bU h)]),rfl⟩
  rename_i h
  rw[av (bH h)] at he
  clear h
  repeat' ((first|refine nI ?_|refine aI ?_|refine tI ?_|refine fI ?_|fail);conv=>whnf)
  refine dC (ax _ _ _) (fun _=>?_) (fun _=>?_)<;>(conv=>whnf)
  case refine_2=>rename_i h;exact⟨ae (by rw[he,cS (bU h)]),rfl⟩
  rename_i h
  rw[av (bH h)] at he
  clear h
  rw[av rfl,av rfl] at he
  refine da k ?_
  conv=>whnf
  refine ah ?_ ?_<;>(intro hx;conv=>whnf)
  ·exact⟨ae (by rw[he,iJ,if_pos hx,aw (by decide)]),rfl⟩
  refine aH.loopF ac ag (fun j:Nat=>j<=r.response.length/\∀q,q<j->0<=r.response.getD q 0/\r.response.getD q 0<p.states.length) (fun j=>[(9, .int .i64 (j:Int))]) (fun _=>[(5, .box 143 (dF r))]) (fun j=>r.response.length-j) 0 ⟨by omega,fun q hq=>by omega⟩ ?_;conv=>whnf
  refine⟨sI,?_⟩
  rintro j ⟨hj,hja⟩
  conv=>whnf
  refine ah ?_ ?_<;>(intro h1;conv=>whnf)
  ·refine nI ?_
   rw[tN]
   conv=>whnf
   repeat' ((first|refine nI ?_|refine aI ?_|refine tI ?_|refine fI ?_|fail);conv=>whnf)
   refine dC (ax _ _ _) (fun _=>?_) (fun _=>?_)<;>(conv=>whnf)
   ·rename_i h
    repeat' ((first|refine nI ?_|refine aI ?_|refine tI ?_|refine fI ?_|fail);conv=>whnf)
    refine⟨j+1,sI,⟨by omega,fun q hq=>?_⟩,by dsimp only;omega⟩
    by_cases e:q=j
    ·subst e;omega
    ·exact hja q (by omega)
   ·rename_i h
    refine⟨ae ?_,rfl⟩
    rw[he,iJ,if_neg hx,if_neg (fun hh:jC r.response p.states.length=>by have:=hh j (by omega);omega),aw (by decide)]
  rw[iJ,if_neg hx,if_pos (show jC r.response p.states.length from fun q hq=>hja q (by omega)),av rfl] at he
  repeat' ((first|refine nI ?_|refine aI ?_|refine tI ?_|refine fI ?_|fail);conv=>whnf)
  refine aH.loopF ac ag (fun j:Nat=>j<=r.guards.length/\cz (r.guards.map (gE p.messages.length))=cz ((r.guards.drop j).map (gE p.messages.length))) (fun j=>[(10, .int .i64 (j:Int))]) (fun _=>[(5, .box 143 (dF r))]) (fun j=>r.guards.length-j) 0 ⟨by omega,rfl⟩ ?_;conv=>whnf
  refine⟨sI,?_⟩
  rintro j ⟨hj,hjo⟩
  conv=>whnf
  refine ah ?_ ?_<;>(intro h1;conv=>whnf)
  ·refine nI ?_
   rw[tN]
   rw[cf _ aE (by omega)] at hjo
   generalize r.guards.getD j aE=g at hjo
   conv=>whnf
   repeat' ((first|refine nI ?_|refine aI ?_|refine tI ?_|refine fI ?_|fail);conv=>whnf)
   have bad:∀x:Int,x≠0->gE p.messages.length g=x->cg p i r=x:=fun x hx hg=>by
    rw[hg,if_pos hx] at hjo
    have hge:aG p.messages.length r.guards=x:=by rw[aG,hjo,if_pos hx]
    rw[he,aw (by rw[hge];exact hx),hge]
   refine dC (ax _ _ _) (fun _=>?_) (fun _=>?_)<;>(conv=>whnf)
   case refine_2=>rename_i h;exact⟨ae (bad 5 (by decide) (by rw[gE,cS (bU h)])).symm,rfl⟩
   rename_i g1
   refine dC (ax _ _ _) (fun _=>?_) (fun _=>?_)<;>(conv=>whnf)
   case refine_2=>rename_i h;exact⟨ae (bad 1 (by decide) (by rw[gE,av (bH g1),eK,if_pos (by omega),aw (by decide)])).symm,rfl⟩
   rename_i g2
   refine dC (wM g.bound) (fun _=>?_) (fun _=>?_)<;>(conv=>whnf)
   case refine_2=>rename_i h;exact⟨ae (bad 4 (by decide) (by rw[gE,av (bH g1),eK,if_neg (by omega),av rfl,je,if_neg h,aw (by decide)])).symm,rfl⟩
   rename_i g3
   rw[if_neg (by rw[u4 g1 g2 g3];simp)] at hjo
   repeat' ((first|refine nI ?_|refine aI ?_|refine tI ?_|refine fI ?_|fail);conv=>whnf)
   exact⟨j+1,sI,⟨by omega,hjo⟩,by dsimp only;omega⟩
  obtain rfl:j=r.guards.length:=by omega
  rw[List.drop_length] at hjo
  have hjo:cz (r.guards.map (gE p.messages.length))=0:=hjo
  refine ah ?_ ?_<;>(intro hx;conv=>whnf)
  ·exact⟨ae (by rw[he,aG,hjo,if_neg (by simp),if_pos (by omega),aw (by decide)]),rfl⟩
  rw[aG,hjo,if_neg (by simp),if_neg (by omega),av rfl] at he
  repeat' ((first|refine nI ?_|refine aI ?_|refine tI ?_|refine fI ?_|fail);conv=>whnf)
  (refine oP (bk r.some_ _ (by omega) (by omega)) ?_;conv=>whnf)
  refine ah ?_ ?_<;>(intro hx;conv=>whnf)
  ·exact⟨ae (by rw[he,aw hx]),rfl⟩
  rw[av (by omega)] at he
  repeat' ((first|refine nI ?_|refine aI ?_|refine tI ?_|refine fI ?_|fail);conv=>whnf)
  (refine oP (bk r.forall_ _ (by omega) (by omega)) ?_;conv=>whnf)
  refine ah ?_ ?_<;>(intro hx;conv=>whnf)
  ·exact⟨ae (by rw[he,aw hx]),rfl⟩
  rw[av (by omega)] at he
  rcases dY p.values.length r.read (by omega) with ⟨v1,v2⟩|⟨v1,v2,v3⟩|⟨v1,v2,v3⟩
  ·repeat' ((first|refine nI ?_|refine aI ?_|refine tI ?_|refine fI ?_|fail);conv=>whnf)
   rw[av v2] at he
   rcases dY p.values.length r.write (by omega) with ⟨w1,w2⟩|⟨w1,w2,w3⟩|⟨w1,w2,w3⟩
   ·repeat' ((first|refine nI ?_|refine aI ?_|refine tI ?_|refine fI ?_|fail);conv=>whnf)
    rw[av w2] at he
    repeat' ((first|refine nI ?_|refine aI ?_|refine tI ?_|refine fI ?_|fail);conv=>whnf)
    (refine oP (bk r.send _ (by omega) (by omega)) ?_;conv=>whnf)
    refine ah ?_ ?_<;>(intro hx;conv=>whnf)
    ·exact⟨ae (by rw[he,aw hx]),rfl⟩
    rw[av (by omega)] at he
    repeat' ((first|refine nI ?_|refine aI ?_|refine tI ?_|refine fI ?_|fail);conv=>whnf)
    (refine oP (bk r.left _ (by omega) (by omega)) ?_;conv=>whnf)
    refine ah ?_ ?_<;>(intro hx;conv=>whnf)
    ·exact⟨ae (by rw[he,aw hx]),rfl⟩
    rw[av (by omega)] at he
    repeat' ((first|refine nI ?_|refine aI ?_|refine tI ?_|refine fI ?_|fail);conv=>whnf)
    (refine oP (bk r.right _ (by omega) (by omega)) ?_;conv=>whnf)
    refine ah ?_ ?_<;>(intro hx;conv=>whnf)
    ·exact⟨ae (by rw[he,aw hx]),rfl⟩
    rw[av (by omega)] at he
    repeat' ((first|refine nI ?_|refine aI ?_|refine tI ?_|refine fI ?_|fail);conv=>whnf)
    (refine oP (bk r.parent _ (by omega) (by omega)) ?_;conv=>whnf)
    refine ah ?_ ?_<;>(intro hx;conv=>whnf)
    ·exact⟨ae (by rw[he,aw hx]),rfl⟩
    rw[av (by omega)] at he
    repeat' ((first|refine nI ?_|refine aI ?_|refine tI ?_|refine fI ?_|fail);conv=>whnf)
    exact⟨ae (by rw[he];rfl),rfl⟩
   ·repeat' ((first|refine nI ?_|refine aI ?_|refine tI ?_|refine fI ?_|fail);conv=>whnf)
    refine dC (ax _ _ _) (fun _=>?_) (fun _=>?_)<;>(conv=>whnf)
    case refine_2=>rename_i h;exact absurd w2 h
    rename_i h
    clear h
    rw[av w3] at he
    repeat' ((first|refine nI ?_|refine aI ?_|refine tI ?_|refine fI ?_|fail);conv=>whnf)
    (refine oP (bk r.send _ (by omega) (by omega)) ?_;conv=>whnf)
    refine ah ?_ ?_<;>(intro hx;conv=>whnf)
    ·exact⟨ae (by rw[he,aw hx]),rfl⟩
    rw[av (by omega)] at he
    repeat' ((first|refine nI ?_|refine aI ?_|refine tI ?_|refine fI ?_|fail);conv=>whnf)
    (refine oP (bk r.left _ (by omega) (by omega)) ?_;conv=>whnf)
    refine ah ?_ ?_<;>(intro hx;conv=>whnf)
    ·exact⟨ae (by rw[he,aw hx]),rfl⟩
    rw[av (by omega)] at he
    repeat' ((first|refine nI ?_|refine aI ?_|refine tI ?_|refine fI ?_|fail);conv=>whnf)
    (refine oP (bk r.right _ (by omega) (by omega)) ?_;conv=>whnf)
    refine ah ?_ ?_<;>(intro hx;conv=>whnf)
    ·exact⟨ae (by rw[he,aw hx]),rfl⟩
    rw[av (by omega)] at he
    repeat' ((first|refine nI ?_|refine aI ?_|refine tI ?_|refine fI ?_|fail);conv=>whnf)
    (refine oP (bk r.parent _ (by omega) (by omega)) ?_;conv=>whnf)
    refine ah ?_ ?_<;>(intro hx;conv=>whnf)
    ·exact⟨ae (by rw[he,aw hx]),rfl⟩
    rw[av (by omega)] at he
    repeat' ((first|refine nI ?_|refine aI ?_|refine tI ?_|refine fI ?_|fail);conv=>whnf)
    exact⟨ae (by rw[he];rfl),rfl⟩
   ·repeat' ((first|refine nI ?_|refine aI ?_|refine tI ?_|refine fI ?_|fail);conv=>whnf)
    refine dC (ax _ _ _) (fun _=>?_) (fun _=>?_)<;>(conv=>whnf)
    ·rename_i h;exact absurd h w2
    ·exact⟨ae (by rw[he,cS w3]),rfl⟩
  ·repeat' ((first|refine nI ?_|refine aI ?_|refine tI ?_|refine fI ?_|fail);conv=>whnf)
   refine dC (ax _ _ _) (fun _=>?_) (fun _=>?_)<;>(conv=>whnf)
   case refine_2=>rename_i h;exact absurd v2 h
   rename_i h
   clear h
   rw[av v3] at he
   rcases dY p.values.length r.write (by omega) with ⟨w1,w2⟩|⟨w1,w2,w3⟩|⟨w1,w2,w3⟩
   ·repeat' ((first|refine nI ?_|refine aI ?_|refine tI ?_|refine fI ?_|fail);conv=>whnf)
    rw[av w2] at he
    repeat' ((first|refine nI ?_|refine aI ?_|refine tI ?_|refine fI ?_|fail);conv=>whnf)
    (refine oP (bk r.send _ (by omega) (by omega)) ?_;conv=>whnf)
    refine ah ?_ ?_<;>(intro hx;conv=>whnf)
    ·exact⟨ae (by rw[he,aw hx]),rfl⟩
    rw[av (by omega)] at he
    repeat' ((first|refine nI ?_|refine aI ?_|refine tI ?_|refine fI ?_|fail);conv=>whnf)
    (refine oP (bk r.left _ (by omega) (by omega)) ?_;conv=>whnf)
    refine ah ?_ ?_<;>(intro hx;conv=>whnf)
    ·exact⟨ae (by rw[he,aw hx]),rfl⟩
    rw[av (by omega)] at he
    repeat' ((first|refine nI ?_|refine aI ?_|refine tI ?_|refine fI ?_|fail);conv=>whnf)
    (refine oP (bk r.right _ (by omega) (by omega)) ?_;conv=>whnf)
    refine ah ?_ ?_<;>(intro hx;conv=>whnf)
    ·exact⟨ae (by rw[he,aw hx]),rfl⟩
    rw[av (by omega)] at he
    repeat' ((first|refine nI ?_|refine aI ?_|refine tI ?_|refine fI ?_|fail);conv=>whnf)
    (refine oP (bk r.parent _ (by omega) (by omega)) ?_;conv=>whnf)
    refine ah ?_ ?_<;>(intro hx;conv=>whnf)
    ·exact⟨ae (by rw[he,aw hx]),rfl⟩
    rw[av (by omega)] at he
    repeat' ((first|refine nI ?_|refine aI ?_|refine tI ?_|refine fI ?_|fail);conv=>whnf)
    exact⟨ae (by rw[he];rfl),rfl⟩
   ·repeat' ((first|refine nI ?_|refine aI ?_|refine tI ?_|refine fI ?_|fail);conv=>whnf)
    refine dC (ax _ _ _) (fun _=>?_) (fun _=>?_)<;>(conv=>whnf)
    case refine_2=>rename_i h;exact absurd w2 h
    rename_i h
    clear h
    rw[av w3] at he
    repeat' ((first|refine nI ?_|refine aI ?_|refine tI ?_|refine fI ?_|fail);conv=>whnf)
    (refine oP (bk r.send _ (by omega) (by omega)) ?_;conv=>whnf)
    refine ah ?_ ?_<;>(intro hx;conv=>whnf)
    ·exact⟨ae (by rw[he,aw hx]),rfl⟩
    rw[av (by omega)] at he
    repeat' ((first|refine nI ?_|refine aI ?_|refine tI ?_|refine fI ?_|fail);conv=>whnf)
    (refine oP (bk r.left _ (by omega) (by omega)) ?_;conv=>whnf)
    refine ah ?_ ?_<;>(intro hx;conv=>whnf)
    ·exact⟨ae (by rw[he,aw hx]),rfl⟩
    rw[av (by omega)] at he
    repeat' ((first|refine nI ?_|refine aI ?_|refine tI ?_|refine fI ?_|fail);conv=>whnf)
    (refine oP (bk r.right _ (by omega) (by omega)) ?_;conv=>whnf)
    refine ah ?_ ?_<;>(intro hx;conv=>whnf)
    ·exact⟨ae (by rw[he,aw hx]),rfl⟩
    rw[av (by omega)] at he
    repeat' ((first|refine nI ?_|refine aI ?_|refine tI ?_|refine fI ?_|fail);conv=>whnf)
    (refine oP (bk r.parent _ (by omega) (by omega)) ?_;conv=>whnf)
    refine ah ?_ ?_<;>(intro hx;conv=>whnf)
    ·exact⟨ae (by rw[he,aw hx]),rfl⟩
    rw[av (by omega)] at he
    repeat' ((first|refine nI ?_|refine aI ?_|refine tI ?_|refine fI ?_|fail);conv=>whnf)
    exact⟨ae (by rw[he];rfl),rfl⟩
   ·repeat' ((first|refine nI ?_|refine aI ?_|refine tI ?_|refine fI ?_|fail);conv=>whnf)
    refine dC (ax _ _ _) (fun _=>?_) (fun _=>?_)<;>(conv=>whnf)
    ·rename_i h;exact absurd h w2
    ·exact⟨ae (by rw[he,cS w3]),rfl⟩
  ·repeat' ((first|refine nI ?_|refine aI ?_|refine tI ?_|refine fI ?_|fail);conv=>whnf)
   refine dC (ax _ _ _) (fun _=>?_) (fun _=>?_)<;>(conv=>whnf)
   ·rename_i h;exact absurd h v2
   ·exact⟨ae (by rw[he,cS v3]),rfl⟩
 ·rw[if_neg (by omega),if_neg (by omega),if_neg (by omega),if_pos k,if_neg (by omega)] at he
  refine dC (ax _ _ _) (fun _=>?_) (fun _=>?_)<;>(conv=>whnf)
  case refine_2=>rename_i h;omega
  repeat' ((first|refine nI ?_|refine aI ?_|refine tI ?_|refine fI ?_|fail);conv=>whnf)
  refine dC (kY p r hf) (fun _=>?_) (fun _=>?_)<;>(conv=>whnf)
  ·rename_i h;exact absurd h hs
  repeat' ((first|refine nI ?_|refine aI ?_|refine tI ?_|refine fI ?_|fail);conv=>whnf)
  refine dC (ax _ _ _) (fun _=>?_) (fun _=>?_)<;>(conv=>whnf)
  case refine_2=>rename_i h;exact⟨ae (by rw[he,cS (bU h)]),rfl⟩
  rename_i h
  rw[av (bH h)] at he
  clear h
  repeat' ((first|refine nI ?_|refine aI ?_|refine tI ?_|refine fI ?_|fail);conv=>whnf)
  refine dC (ax _ _ _) (fun _=>?_) (fun _=>?_)<;>(conv=>whnf)
  case refine_2=>rename_i h;exact⟨ae (by rw[he,cS (bU h)]),rfl⟩
  rename_i h
  rw[av (bH h)] at he
  clear h
  rw[av rfl,av rfl,av rfl] at he
  repeat' ((first|refine nI ?_|refine aI ?_|refine tI ?_|refine fI ?_|fail);conv=>whnf)
  refine aH.loopF ac ag (fun j:Nat=>j<=r.guards.length/\cz (r.guards.map (gE p.messages.length))=cz ((r.guards.drop j).map (gE p.messages.length))) (fun j=>[(10, .int .i64 (j:Int))]) (fun _=>[(5, .box 143 (dF r))]) (fun j=>r.guards.length-j) 0 ⟨by omega,rfl⟩ ?_;conv=>whnf
  refine⟨sI,?_⟩
  rintro j ⟨hj,hjo⟩
  conv=>whnf
  refine ah ?_ ?_<;>(intro h1;conv=>whnf)
  ·refine nI ?_
   rw[tN]
   rw[cf _ aE (by omega)] at hjo
   generalize r.guards.getD j aE=g at hjo
   conv=>whnf
   repeat' ((first|refine nI ?_|refine aI ?_|refine tI ?_|refine fI ?_|fail);conv=>whnf)
   have bad:∀x:Int,x≠0->gE p.messages.length g=x->cg p i r=x:=fun x hx hg=>by
    rw[hg,if_pos hx] at hjo
    have hge:aG p.messages.length r.guards=x:=by rw[aG,hjo,if_pos hx]
    rw[he,aw (by rw[hge];exact hx),hge]
   refine dC (ax _ _ _) (fun _=>?_) (fun _=>?_)<;>(conv=>whnf)
   case refine_2=>rename_i h;exact⟨ae (bad 5 (by decide) (by rw[gE,cS (bU h)])).symm,rfl⟩
   rename_i g1
   refine dC (ax _ _ _) (fun _=>?_) (fun _=>?_)<;>(conv=>whnf)
   case refine_2=>rename_i h;exact⟨ae (bad 1 (by decide) (by rw[gE,av (bH g1),eK,if_pos (by omega),aw (by decide)])).symm,rfl⟩
   rename_i g2
   refine dC (wM g.bound) (fun _=>?_) (fun _=>?_)<;>(conv=>whnf)
   case refine_2=>rename_i h;exact⟨ae (bad 4 (by decide) (by rw[gE,av (bH g1),eK,if_neg (by omega),av rfl,je,if_neg h,aw (by decide)])).symm,rfl⟩
   rename_i g3
   rw[if_neg (by rw[u4 g1 g2 g3];simp)] at hjo
   repeat' ((first|refine nI ?_|refine aI ?_|refine tI ?_|refine fI ?_|fail);conv=>whnf)
   exact⟨j+1,sI,⟨by omega,hjo⟩,by dsimp only;omega⟩
  obtain rfl:j=r.guards.length:=by omega
  rw[List.drop_length] at hjo
  have hjo:cz (r.guards.map (gE p.messages.length))=0:=hjo
  refine ah ?_ ?_<;>(intro hx;conv=>whnf)
  ·exact⟨ae (by rw[he,aG,hjo,if_neg (by simp),if_pos (by omega),aw (by decide)]),rfl⟩
  rw[aG,hjo,if_neg (by simp),if_neg (by omega),av rfl] at he
  repeat' ((first|refine nI ?_|refine aI ?_|refine tI ?_|refine fI ?_|fail);conv=>whnf)
  (refine oP (bk r.some_ _ (by omega) (by omega)) ?_;conv=>whnf)
  refine ah ?_ ?_<;>(intro hx;conv=>whnf)
  ·exact⟨ae (by rw[he,aw hx]),rfl⟩
  rw[av (by omega)] at he
  repeat' ((first|refine nI ?_|refine aI ?_|refine tI ?_|refine fI ?_|fail);conv=>whnf)
  (refine oP (bk r.forall_ _ (by omega) (by omega)) ?_;conv=>whnf)
  refine ah ?_ ?_<;>(intro hx;conv=>whnf)
  ·exact⟨ae (by rw[he,aw hx]),rfl⟩
  rw[av (by omega)] at he
  have v1:r.read=-1:=by omega
  repeat' ((first|refine nI ?_|refine aI ?_|refine tI ?_|refine fI ?_|fail);conv=>whnf)
  rw[av (show ew p.values.length r.read=0 by rw[ew,if_neg (by omega)])] at he
  have w1:r.write=-1:=by omega
  repeat' ((first|refine nI ?_|refine aI ?_|refine tI ?_|refine fI ?_|fail);conv=>whnf)
  rw[av (show ew p.values.length r.write=0 by rw[ew,if_neg (by omega)])] at he
  repeat' ((first|refine nI ?_|refine aI ?_|refine tI ?_|refine fI ?_|fail);conv=>whnf)
  (refine oP (bk r.send _ (by omega) (by omega)) ?_;conv=>whnf)
  refine ah ?_ ?_<;>(intro hx;conv=>whnf)
  ·exact⟨ae (by rw[he,aw hx]),rfl⟩
  rw[av (by omega)] at he
  repeat' ((first|refine nI ?_|refine aI ?_|refine tI ?_|refine fI ?_|fail);conv=>whnf)
  (refine oP (bk r.left _ (by omega) (by omega)) ?_;conv=>whnf)
  refine ah ?_ ?_<;>(intro hx;conv=>whnf)
  ·exact⟨ae (by rw[he,aw hx]),rfl⟩
  rw[av (by omega)] at he
  repeat' ((first|refine nI ?_|refine aI ?_|refine tI ?_|refine fI ?_|fail);conv=>whnf)
  (refine oP (bk r.right _ (by omega) (by omega)) ?_;conv=>whnf)
  refine ah ?_ ?_<;>(intro hx;conv=>whnf)
  ·exact⟨ae (by rw[he,aw hx]),rfl⟩
  rw[av (by omega)] at he
  repeat' ((first|refine nI ?_|refine aI ?_|refine tI ?_|refine fI ?_|fail);conv=>whnf)
  (refine oP (bk r.parent _ (by omega) (by omega)) ?_;conv=>whnf)
  refine ah ?_ ?_<;>(intro hx;conv=>whnf)
  ·exact⟨ae (by rw[he,aw hx]),rfl⟩
  rw[av (by omega)] at he
  refine da k ?_
  conv=>whnf
  refine dC (ax _ _ _) (fun _=>?_) (fun _=>?_)<;>(conv=>whnf)
  ·rename_i h
   repeat' ((first|refine nI ?_|refine aI ?_|refine dz trivial (by omega) ?_|refine dV trivial (by omega) ?_|refine dI ?_|refine dR ?_|refine dP ?_|refine al rfl ?_|refine pI _ rfl ?_|refine ap _ rfl ?_|refine tI ?_|refine fI ?_|refine ah (fun _=>?_) (fun _=>?_))<;>conv=>whnf)
   all_goals first
    |exact⟨ae (by rw[he,BF,if_pos (by omega)];rfl),rfl⟩
    |exact⟨ae (by rw[he,BF,if_neg (by omega)];rfl),rfl⟩
  ·rename_i h
   exact⟨ae (by rw[he,BF,if_pos (by omega)];rfl),rfl⟩
 ·rw[if_pos (.inr k),if_pos (.inr k),if_neg (by omega),if_neg (by omega),if_pos k] at he
  refine dC (ax _ _ _) (fun _=>?_) (fun _=>?_)<;>(conv=>whnf)
  case refine_2=>rename_i h;omega
  repeat' ((first|refine nI ?_|refine aI ?_|refine tI ?_|refine fI ?_|fail);conv=>whnf)
  refine dC (kY p r hf) (fun _=>?_) (fun _=>?_)<;>(conv=>whnf)
  ·rename_i h;exact absurd h hs
  repeat' ((first|refine nI ?_|refine aI ?_|refine tI ?_|refine fI ?_|fail);conv=>whnf)
  refine dC (ax _ _ _) (fun _=>?_) (fun _=>?_)<;>(conv=>whnf)
  case refine_2=>rename_i h;exact⟨ae (by rw[he,cS (bU h)]),rfl⟩
  rename_i h
  rw[av (bH h)] at he
  clear h
  repeat' ((first|refine nI ?_|refine aI ?_|refine tI ?_|refine fI ?_|fail);conv=>whnf)
  refine dC (ax _ _ _) (fun _=>?_) (fun _=>?_)<;>(conv=>whnf)
  case refine_2=>rename_i h;exact⟨ae (by rw[he,cS (bU h)]),rfl⟩
  rename_i h
  rw[av (bH h)] at he
  clear h
  repeat' ((first|refine nI ?_|refine aI ?_|refine tI ?_|refine fI ?_|fail);conv=>whnf)
  refine dC (ax _ _ _) (fun _=>?_) (fun _=>?_)<;>(conv=>whnf)
  case refine_2=>rename_i h;exact⟨ae (by rw[he,cS (bU h)]),rfl⟩
  rename_i h
  rw[av (bH h)] at he
  clear h
  repeat' ((first|refine nI ?_|refine aI ?_|refine tI ?_|refine fI ?_|fail);conv=>whnf)
  refine dC (ax _ _ _) (fun _=>?_) (fun _=>?_)<;>(conv=>whnf)
  case refine_2=>rename_i h;exact⟨ae (by rw[he,cS (bU h)]),rfl⟩
  rename_i h
  rw[av (bH h)] at he
  clear h
  rw[av rfl] at he
  repeat' ((first|refine nI ?_|refine aI ?_|refine tI ?_|refine fI ?_|fail);conv=>whnf)
  refine aH.loopF ac ag (fun j:Nat=>j<=r.guards.length/\cz (r.guards.map (gE p.messages.length))=cz ((r.guards.drop j).map (gE p.messages.length))) (fun j=>[(10, .int .i64 (j:Int))]) (fun _=>[(5, .box 143 (dF r))]) (fun j=>r.guards.length-j) 0 ⟨by omega,rfl⟩ ?_;conv=>whnf
  refine⟨sI,?_⟩
  rintro j ⟨hj,hjo⟩
  conv=>whnf
  refine ah ?_ ?_<;>(intro h1;conv=>whnf)
  ·refine nI ?_
   rw[tN]
   rw[cf _ aE (by omega)] at hjo
   generalize r.guards.getD j aE=g at hjo
   conv=>whnf
   repeat' ((first|refine nI ?_|refine aI ?_|refine tI ?_|refine fI ?_|fail);conv=>whnf)
   have bad:∀x:Int,x≠0->gE p.messages.length g=x->cg p i r=x:=fun x hx hg=>by
    rw[hg,if_pos hx] at hjo
    have hge:aG p.messages.length r.guards=x:=by rw[aG,hjo,if_pos hx]
    rw[he,aw (by rw[hge];exact hx),hge]
   refine dC (ax _ _ _) (fun _=>?_) (fun _=>?_)<;>(conv=>whnf)
   case refine_2=>rename_i h;exact⟨ae (bad 5 (by decide) (by rw[gE,cS (bU h)])).symm,rfl⟩
   rename_i g1
   refine dC (ax _ _ _) (fun _=>?_) (fun _=>?_)<;>(conv=>whnf)
   case refine_2=>rename_i h;exact⟨ae (bad 1 (by decide) (by rw[gE,av (bH g1),eK,if_pos (by omega),aw (by decide)])).symm,rfl⟩
   rename_i g2
   refine dC (wM g.bound) (fun _=>?_) (fun _=>?_)<;>(conv=>whnf)
   case refine_2=>rename_i h;exact⟨ae (bad 4 (by decide) (by rw[gE,av (bH g1),eK,if_neg (by omega),av rfl,je,if_neg h,aw (by decide)])).symm,rfl⟩
   rename_i g3
   rw[if_neg (by rw[u4 g1 g2 g3];simp)] at hjo
   repeat' ((first|refine nI ?_|refine aI ?_|refine tI ?_|refine fI ?_|fail);conv=>whnf)
   exact⟨j+1,sI,⟨by omega,hjo⟩,by dsimp only;omega⟩
  obtain rfl:j=r.guards.length:=by omega
  rw[List.drop_length] at hjo
  have hjo:cz (r.guards.map (gE p.messages.length))=0:=hjo
  refine ah ?_ ?_<;>(intro hx;conv=>whnf)
  ·exact⟨ae (by rw[he,aG,hjo,if_neg (by simp),if_pos (by omega),aw (by decide)]),rfl⟩
  rw[aG,hjo,if_neg (by simp),if_neg (by omega),av rfl] at he
  repeat' ((first|refine nI ?_|refine aI ?_|refine tI ?_|refine fI ?_|fail);conv=>whnf)
  (refine oP (bk r.some_ _ (by omega) (by omega)) ?_;conv=>whnf)
  refine ah ?_ ?_<;>(intro hx;conv=>whnf)
  ·exact⟨ae (by rw[he,aw hx]),rfl⟩
  rw[av (by omega)] at he
  repeat' ((first|refine nI ?_|refine aI ?_|refine tI ?_|refine fI ?_|fail);conv=>whnf)
  (refine oP (bk r.forall_ _ (by omega) (by omega)) ?_;conv=>whnf)
  refine ah ?_ ?_<;>(intro hx;conv=>whnf)
  ·exact⟨ae (by rw[he,aw hx]),rfl⟩
  rw[av (by omega)] at he
  have v1:r.read=-1:=by omega
  repeat' ((first|refine nI ?_|refine aI ?_|refine tI ?_|refine fI ?_|fail);conv=>whnf)
  rw[av (show ew p.values.length r.read=0 by rw[ew,if_neg (by omega)])] at he
  have w1:r.write=-1:=by omega
  repeat' ((first|refine nI ?_|refine aI ?_|refine tI ?_|refine fI ?_|fail);conv=>whnf)
  rw[av (show ew p.values.length r.write=0 by rw[ew,if_neg (by omega)])] at he
  repeat' ((first|refine nI ?_|refine aI ?_|refine tI ?_|refine fI ?_|fail);conv=>whnf)
  (refine oP (bk r.send _ (by omega) (by omega)) ?_;conv=>whnf)
  refine ah ?_ ?_<;>(intro hx;conv=>whnf)
  ·exact⟨ae (by rw[he,aw hx]),rfl⟩
  rw[av (by omega)] at he
  repeat' ((first|refine nI ?_|refine aI ?_|refine tI ?_|refine fI ?_|fail);conv=>whnf)
  (refine oP (bk r.left _ (by omega) (by omega)) ?_;conv=>whnf)
  refine ah ?_ ?_<;>(intro hx;conv=>whnf)
  ·exact⟨ae (by rw[he,aw hx]),rfl⟩
  rw[av (by omega)] at he
  repeat' ((first|refine nI ?_|refine aI ?_|refine tI ?_|refine fI ?_|fail);conv=>whnf)
  (refine oP (bk r.right _ (by omega) (by omega)) ?_;conv=>whnf)
  refine ah ?_ ?_<;>(intro hx;conv=>whnf)
  ·exact⟨ae (by rw[he,aw hx]),rfl⟩
  rw[av (by omega)] at he
  repeat' ((first|refine nI ?_|refine aI ?_|refine tI ?_|refine fI ?_|fail);conv=>whnf)
  (refine oP (bk r.parent _ (by omega) (by omega)) ?_;conv=>whnf)
  refine ah ?_ ?_<;>(intro hx;conv=>whnf)
  ·exact⟨ae (by rw[he,aw hx]),rfl⟩
  rw[av (by omega)] at he
  rw[av rfl] at he
  by_cases h4:p.topology=4
  ·repeat' ((first|refine nI ?_|refine aI ?_|refine tI ?_|refine fI ?_|fail);conv=>whnf)
   refine dC (ax _ _ _) (fun _=>?_) (fun _=>?_)<;>(conv=>whnf)
   ·rename_i h
    repeat' ((first|refine nI ?_|refine aI ?_|refine tI ?_|refine fI ?_|fail);conv=>whnf)
    exact⟨ae (by rw[he,qL,if_neg (by omega)];rfl),rfl⟩
   ·rename_i h
    exact⟨ae (by rw[he,qL,if_pos (by omega)];rfl),rfl⟩
  ·repeat' ((first|refine nI ?_|refine aI ?_|refine tI ?_|refine fI ?_|fail);conv=>whnf)
   refine dC (ax _ _ _) (fun _=>?_) (fun _=>?_)<;>(conv=>whnf)
   ·rename_i h
    repeat' ((first|refine nI ?_|refine aI ?_|refine tI ?_|refine fI ?_|fail);conv=>whnf)
    exact⟨ae (by rw[he,qL,if_neg (by omega)];rfl),rfl⟩
   ·rename_i h
    exact⟨ae (by rw[he,qL,if_pos (by omega)];rfl),rfl⟩
end Go.Proofs.YtnjggjhkfncnlaaGreatDoor
