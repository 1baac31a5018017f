import Derived.Test.YtekmminpfhacpaaGreatDoorM2
set_option linter.unusedVariables false
set_option linter.unusedSimpArgs false
namespace Go.Proofs.YtekmminpfhacpaaGreatDoor
set_option maxRecDepth 100000
set_option maxHeartbeats 8000000
theorem aq {a:Int} {l:List Int} (h:a=0):ci (a::l)=ci l:=by rw[ci,if_neg (by omega)]
theorem cX {a:Int} {l:List Int} (h:a=5):ci (a::l)=5:=by rw[ci,if_pos (by omega),h]
theorem ar {a:Int} {l:List Int} (h:a≠0):ci (a::l)=a:=by rw[ci,if_pos h]
theorem bD {i n:Int} (h:0<=i/\i<=n-1):cM i n=0:=by rw[cM,if_neg (by omega)]
theorem bM {i n:Int} (h:¬(0<=i/\i<=n-1)):cM i n=5:=by rw[cM,if_pos (by omega)]
theorem lk (n:Int):bC [] n=0:=by
 have h1:lV [] n:=fun j hj=>by simp at hj
 have h2:pM []:=fun j hj=>by simp at hj
 rw[bC,if_pos h1,if_pos h2]
theorem fS {α:Type} {l:List α} (h:¬0<l.length):l=[]:=List.eq_nil_of_length_eq_zero (by omega)
def wZ (p:an) (r:bo):List Int:=
 [cM r.src p.states.length,cM r.dst p.states.length,(if r.kind=2\/r.kind=5 then cM r.pfrom p.states.length else 0),(if r.kind=2\/r.kind=5 then cM r.pto p.states.length else 0),(if r.kind=3 then i9 r.response p.states.length else 0),
  aK p.messages.length r.guards,bC r.some_ p.states.length,bC r.forall_ p.states.length,eo p.values.length r.read,eo p.values.length r.write,bC r.send p.messages.length,
  bC r.left p.states.length,bC r.right p.states.length,bC r.parent p.states.length,(if r.kind=4 then Eo r.at_ p.topology else 0),(if r.kind=5 then sE r.direction p.topology else 0)]
theorem Ep (l m:List Int):ci (l++m)=if ci l≠0 then ci l else ci m:=by
 induction l with
 |nil=>simp[ci]
 |cons a l ih=>
  simp only[List.cons_append,ci]
  by_cases h:a=0
  ·simp[h,ih]
  ·simp[h]
theorem ll (a b:Int) (l:List Int):ci [a,b,ci l]=ci (a::b::l):=by
 simp only[ci]
 by_cases h:ci l=0<;>simp[h]
theorem HM {p:an} {r:bo} (hf:fR r.kind p.topology) (hs:¬iQ r p.topology):ci (wZ p r)=ci [cM r.src p.states.length,cM r.dst p.states.length,cW p r]:=by
 unfold fR at hf
 unfold iQ at hs
 have hg0:aK p.messages.length []=0:=by simp[aK,ci]
 have hv0:eo p.values.length (-1)=0:=by rw[eo,if_neg (by omega)]
 have hk:r.kind=1\/r.kind=2\/r.kind=3\/r.kind=4\/r.kind=5:=by omega
 rcases hk with k|k|k|k|k
 ·have a1:r.left=[]:=fS (by omega)
  have a2:r.right=[]:=fS (by omega)
  have a3:r.parent=[]:=fS (by omega)
  rw[cW,if_pos k,ll,wZ]
  simp only[k,a1,a2,a3,lk]
  simp[ci]
 ·have a1:r.left=[]:=fS (by omega)
  have a2:r.right=[]:=fS (by omega)
  have a3:r.parent=[]:=fS (by omega)
  have a4:r.guards=[]:=fS (by omega)
  have a5:r.some_=[]:=fS (by omega)
  have a6:r.forall_=[]:=fS (by omega)
  have a7:r.send=[]:=fS (by omega)
  rw[cW,if_neg (by omega),if_pos k,ll,wZ]
  simp only[k,a1,a2,a3,a4,a5,a6,a7,lk,hg0]
  simp[ci]
 ·have a1:r.left=[]:=fS (by omega)
  have a2:r.right=[]:=fS (by omega)
  have a3:r.parent=[]:=fS (by omega)
  have a4:r.guards=[]:=fS (by omega)
  have a5:r.some_=[]:=fS (by omega)
  have a6:r.forall_=[]:=fS (by omega)
  have a7:r.send=[]:=fS (by omega)
  rw[cW,if_neg (by omega),if_neg (by omega),if_pos k,ll,wZ]
  simp only[k,a1,a2,a3,a4,a5,a6,a7,lk,hg0]
  simp[ci]
 ·have a4:r.guards=[]:=fS (by omega)
  have a5:r.some_=[]:=fS (by omega)
  have a6:r.forall_=[]:=fS (by omega)
  have a7:r.send=[]:=fS (by omega)
  have a8:r.read=-1:=by omega
  have a9:r.write=-1:=by omega
  rw[cW,if_neg (by omega),if_neg (by omega),if_neg (by omega),if_pos k,ll,wZ]
  simp only[k,a4,a5,a6,a7,a8,a9,lk,hg0,hv0]
  simp[ci]
 ·have a1:r.left=[]:=fS (by omega)
  have a2:r.right=[]:=fS (by omega)
  have a3:r.parent=[]:=fS (by omega)
  have a4:r.guards=[]:=fS (by omega)
  have a5:r.some_=[]:=fS (by omega)
  have a6:r.forall_=[]:=fS (by omega)
  have a7:r.send=[]:=fS (by omega)
  have a8:r.read=-1:=by omega
  have a9:r.write=-1:=by omega
  rw[cW,if_neg (by omega),if_neg (by omega),if_neg (by omega),if_neg (by omega),ll,wZ]
  simp only[k,a1,a2,a3,a4,a5,a6,a7,a8,a9,lk,hg0,hv0]
  simp[ci]
theorem ti {rs:List bo} {i:Nat} {r:bo} (hi:i<=rs.length):gQ rs i r↔∃j,j<i/\(rs.getD j ap).name=r.name:=by
 have e:∀j,j<i->(rs.take i).getD j ap=rs.getD j ap:=fun j hj=>by
  rw[gD,List.getElem?_take,if_pos hj,<-gD]
 have hl:(rs.take i).length=i:=by simp;omega
 unfold gQ
 rw[hl]
 constructor
 ·rintro⟨j,h1,h2⟩;exact⟨j,h1,by rw[<-e j h1];exact h2⟩
 ·rintro⟨j,h1,h2⟩;exact⟨j,h1,by rw[e j h1];exact h2⟩
theorem w4 {m:Int} {g:ez} (h1:0<=g.message/\g.message<=m-1) (h2:1<=g.coef/\g.coef<=100) (h3:eh g.bound):gE m g=0:=by
 rw[gE,aq (bD h1),aq (by rw[eI,if_neg (by omega)]),aq (by rw[jz,if_pos h3])];rfl
theorem dY (m v:Int) (hm:0<=m):(v=-1/\eo m v=0)\/(v≠-1/\(0<=v/\v<=m-1)/\eo m v=0)\/(v≠-1/\¬(0<=v/\v<=m-1)/\eo m v=5):=by
 unfold eo
 by_cases h1:v=-1
 ·left;exact⟨h1,if_neg (by omega)⟩
 ·by_cases h2:0<=v/\v<=m-1
  ·right;left;exact⟨h1,h2,if_neg (by omega)⟩
  ·right;right;exact⟨h1,h2,if_pos (by omega)⟩
theorem MG (p:an) (i:Nat) (hp:iO p) (hi:i<p.rules.length):ab Tryz.prog 208 [.agg (aR p), .int .i64 (i:Int)] (fun u=>u= .int .i64 (b9 p i (p.rules.getD i ap))):=by
 have hle:=jh hp
 have hbr:=wR hp hi
 refine ab.intro ae ag Tryz.func208 rfl (by decide) ?_;(conv=>whnf)
 refine al rfl ?_
 conv=>whnf
 refine dP ?_
 conv=>whnf
 refine nI ?_
 rw[tN]
 generalize p.rules.getD i ap=r at hbr
 have hrl:=yG hbr
 conv=>whnf
 refine dC (kc r.name (by omega)) (fun _=>?_) (fun _=>?_)<;>(conv=>whnf)
 case refine_2=>rename_i hv;exact⟨ac (by rw[b9,if_pos (.inl hv)]),rfl⟩
 rename_i hv
 refine aQ.loopF ae ag (fun k:Nat=>k<=i/\∀j,j<k->(p.rules.getD j ap).name≠r.name) (fun k=>[(7, .int .i64 (k:Int))]) (fun _=>[(5, .box 180 (eg r))]) (fun k=>i-k) 0 ⟨by omega,fun j hj=>by omega⟩ ?_;conv=>whnf
 refine⟨sI,?_⟩
 rintro k ⟨hk,ha⟩
 conv=>whnf
 refine ah ?_ ?_<;>(intro h1;conv=>whnf)
 ·refine dI ?_
  conv=>whnf
  refine nI ?_
  rw[tN]
  conv=>whnf
  refine ah ?_ ?_<;>(intro h2;conv=>whnf)
  ·exact⟨ac (by rw[b9,if_pos (.inr ((ti (by omega)).2 ⟨k,by omega,h2⟩))]),rfl⟩
  ·repeat' ((first|refine nI ?_|refine aI ?_|refine fb trivial (by omega) ?_|refine fv trivial (by omega) ?_|refine dI ?_|refine dR ?_|refine dP ?_|refine al rfl ?_|refine pI _ rfl ?_|refine aw _ rfl ?_|refine tI ?_|refine fI ?_|refine ah (fun _=>?_) (fun _=>?_))<;>conv=>whnf)
   refine⟨k+1,sI,⟨by omega,fun j hj=>?_⟩,by dsimp only;omega⟩
   by_cases e:j=k
   ·subst e;exact h2
   ·exact ha j (by omega)
 have hnt:¬gQ p.rules i r:=fun h=>by
  obtain⟨j,h2,h3⟩:=(ti (by omega)).1 h
  exact ha j (by omega) h3
 have e1:∀x,(if¬cj r.name\/gQ p.rules i r then(2:Int) else x)=x:=fun x=>if_neg (by rintro(h|h);exact h hv;exact hnt h)
 by_cases hf:fR r.kind p.topology
 case neg=>
  have hE:b9 p i r=6:=by rw[b9,e1,if_pos (.inl hf)]
  unfold fR at hf
  refine dC (ay _ _ _) (fun _=>?_) (fun _=>?_)<;>(conv=>whnf)
  ·repeat' ((first|refine nI ?_|refine aI ?_|refine fb trivial (by omega) ?_|refine fv trivial (by omega) ?_|refine dI ?_|refine dR ?_|refine dP ?_|refine al rfl ?_|refine pI _ rfl ?_|refine aw _ rfl ?_|refine tI ?_|refine fI ?_|refine ah (fun _=>?_) (fun _=>?_))<;>conv=>whnf)
   all_goals exact⟨ac hE.symm,rfl⟩
  ·exact⟨ac hE.symm,rfl⟩
 by_cases hs:iQ r p.topology
 case pos=>
  have hE:b9 p i r=6:=by rw[b9,e1,if_pos (.inr hs)]
  have ff:=hf
  unfold fR at ff
  refine dC (ay _ _ _) (fun _=>?_) (fun _=>?_)<;>(conv=>whnf)
  ·repeat' ((first|refine nI ?_|refine aI ?_|refine fb trivial (by omega) ?_|refine fv trivial (by omega) ?_|refine dI ?_|refine dR ?_|refine dP ?_|refine al rfl ?_|refine pI _ rfl ?_|refine aw _ rfl ?_|refine tI ?_|refine fI ?_|refine ah (fun _=>?_) (fun _=>?_))<;>conv=>whnf)
   all_goals
    refine dC (lW p r hf) (fun _=>?_) (fun _=>?_)<;>(conv=>whnf)
    ·exact⟨ac hE.symm,rfl⟩
    ·rename_i h;exact absurd hs h
  ·exact⟨ac hE.symm,rfl⟩
 have he:b9 p i r=ci (wZ p r):=by rw[b9,e1,if_neg (by rintro(h|h);exact h hf;exact hs h),HM hf hs]
 have ff:=hf
 unfold fR at ff
 have ss:=hs
 unfold iQ at ss
 unfold wZ at he
 have hk:r.kind=1\/r.kind=2\/r.kind=3\/r.kind=4\/r.kind=5:=by omega
 rcases hk with k|k|k|k|k
 ·rw[if_neg (by omega),if_neg (by omega),if_neg (by omega),if_neg (by omega),if_neg (by omega)] at he
  refine dC (ay _ _ _) (fun _=>?_) (fun _=>?_)<;>(conv=>whnf)
  case refine_2=>rename_i h;omega
  repeat' ((first|refine nI ?_|refine aI ?_|refine tI ?_|refine fI ?_|fail);conv=>whnf)
  refine dC (lW p r hf) (fun _=>?_) (fun _=>?_)<;>(conv=>whnf)
  ·rename_i h;exact absurd h hs
  repeat' ((first|refine nI ?_|refine aI ?_|refine tI ?_|refine fI ?_|fail);conv=>whnf)
  refine dC (ay _ _ _) (fun _=>?_) (fun _=>?_)<;>(conv=>whnf)
  case refine_2=>rename_i h;exact⟨ac (by rw[he,cX (bM h)]),rfl⟩
  rename_i h
  rw[aq (bD h)] at he
  clear h
  repeat' ((first|refine nI ?_|refine aI ?_|refine tI ?_|refine fI ?_|fail);conv=>whnf)
  refine dC (ay _ _ _) (fun _=>?_) (fun _=>?_)<;>(conv=>whnf)
  case refine_2=>rename_i h;exact⟨ac (by rw[he,cX (bM h)]),rfl⟩
  rename_i h
  rw[aq (bD h)] at he
  clear h
  rw[aq rfl,aq rfl,aq rfl] at he
  repeat' ((first|refine nI ?_|refine aI ?_|refine tI ?_|refine fI ?_|fail);conv=>whnf)
  refine aQ.loopF ae ag (fun j:Nat=>j<=r.guards.length/\ci (r.guards.map (gE p.messages.length))=ci ((r.guards.drop j).map (gE p.messages.length))) (fun j=>[(10, .int .i64 (j:Int))]) (fun _=>[(5, .box 180 (eg r))]) (fun j=>r.guards.length-j) 0 ⟨by omega,rfl⟩ ?_;conv=>whnf
  refine⟨sI,?_⟩
  rintro j ⟨hj,hjo⟩
  conv=>whnf
  refine ah ?_ ?_<;>(intro h1;conv=>whnf)
  ·refine nI ?_
   rw[tN]
   rw[bW _ aC (by omega)] at hjo
   generalize r.guards.getD j aC=g at hjo
   conv=>whnf
   repeat' ((first|refine nI ?_|refine aI ?_|refine tI ?_|refine fI ?_|fail);conv=>whnf)
   have bad:∀x:Int,x≠0->gE p.messages.length g=x->b9 p i r=x:=fun x hx hg=>by
    rw[hg,if_pos hx] at hjo
    have hge:aK p.messages.length r.guards=x:=by rw[aK,hjo,if_pos hx]
    rw[he,ar (by rw[hge];exact hx),hge]
   refine dC (ay _ _ _) (fun _=>?_) (fun _=>?_)<;>(conv=>whnf)
   case refine_2=>rename_i h;exact⟨ac (bad 5 (by decide) (by rw[gE,cX (bM h)])).symm,rfl⟩
   rename_i g1
   refine dC (ay _ _ _) (fun _=>?_) (fun _=>?_)<;>(conv=>whnf)
   case refine_2=>rename_i h;exact⟨ac (bad 1 (by decide) (by rw[gE,aq (bD g1),eI,if_pos (by omega),ar (by decide)])).symm,rfl⟩
   rename_i g2
   refine dC (Cb g.bound) (fun _=>?_) (fun _=>?_)<;>(conv=>whnf)
   case refine_2=>rename_i h;exact⟨ac (bad 4 (by decide) (by rw[gE,aq (bD g1),eI,if_neg (by omega),aq rfl,jz,if_neg h,ar (by decide)])).symm,rfl⟩
   rename_i g3
   rw[if_neg (by rw[w4 g1 g2 g3];simp)] at hjo
   repeat' ((first|refine nI ?_|refine aI ?_|refine tI ?_|refine fI ?_|fail);conv=>whnf)
   exact⟨j+1,sI,⟨by omega,hjo⟩,by dsimp only;omega⟩
  obtain rfl:j=r.guards.length:=by omega
  rw[List.drop_length] at hjo
  have hjo:ci (r.guards.map (gE p.messages.length))=0:=hjo
  refine ah ?_ ?_<;>(intro hx;conv=>whnf)
  ·exact⟨ac (by rw[he,aK,hjo,if_neg (by simp),if_pos (by omega),ar (by decide)]),rfl⟩
  rw[aK,hjo,if_neg (by simp),if_neg (by omega),aq rfl] at he
  repeat' ((first|refine nI ?_|refine aI ?_|refine tI ?_|refine fI ?_|fail);conv=>whnf)
  (refine oP (bl r.some_ _ (by omega) (by omega)) ?_;conv=>whnf)
  refine ah ?_ ?_<;>(intro hx;conv=>whnf)
  ·exact⟨ac (by rw[he,ar hx]),rfl⟩
  rw[aq (by omega)] at he
  repeat' ((first|refine nI ?_|refine aI ?_|refine tI ?_|refine fI ?_|fail);conv=>whnf)
  (refine oP (bl r.forall_ _ (by omega) (by omega)) ?_;conv=>whnf)
  refine ah ?_ ?_<;>(intro hx;conv=>whnf)
  ·exact⟨ac (by rw[he,ar hx]),rfl⟩
  rw[aq (by omega)] at he
  rcases dY p.values.length r.read (by omega) with ⟨v1,v2⟩|⟨v1,v2,v3⟩|⟨v1,v2,v3⟩
  ·repeat' ((first|refine nI ?_|refine aI ?_|refine tI ?_|refine fI ?_|fail);conv=>whnf)
   rw[aq v2] at he
   rcases dY p.values.length r.write (by omega) with ⟨w1,w2⟩|⟨w1,w2,w3⟩|⟨w1,w2,w3⟩
   ·repeat' ((first|refine nI ?_|refine aI ?_|refine tI ?_|refine fI ?_|fail);conv=>whnf)
    rw[aq w2] at he
    repeat' ((first|refine nI ?_|refine aI ?_|refine tI ?_|refine fI ?_|fail);conv=>whnf)
    (refine oP (bl r.send _ (by omega) (by omega)) ?_;conv=>whnf)
    refine ah ?_ ?_<;>(intro hx;conv=>whnf)
    ·exact⟨ac (by rw[he,ar hx]),rfl⟩
    rw[aq (by omega)] at he
    repeat' ((first|refine nI ?_|refine aI ?_|refine tI ?_|refine fI ?_|fail);conv=>whnf)
    (refine oP (bl r.left _ (by omega) (by omega)) ?_;conv=>whnf)
    refine ah ?_ ?_<;>(intro hx;conv=>whnf)
    ·exact⟨ac (by rw[he,ar hx]),rfl⟩
    rw[aq (by omega)] at he
    repeat' ((first|refine nI ?_|refine aI ?_|refine tI ?_|refine fI ?_|fail);conv=>whnf)
    (refine oP (bl r.right _ (by omega) (by omega)) ?_;conv=>whnf)
    refine ah ?_ ?_<;>(intro hx;conv=>whnf)
    ·exact⟨ac (by rw[he,ar hx]),rfl⟩
    rw[aq (by omega)] at he
    repeat' ((first|refine nI ?_|refine aI ?_|refine tI ?_|refine fI ?_|fail);conv=>whnf)
    (refine oP (bl r.parent _ (by omega) (by omega)) ?_;conv=>whnf)
    refine ah ?_ ?_<;>(intro hx;conv=>whnf)
    ·exact⟨ac (by rw[he,ar hx]),rfl⟩
    rw[aq (by omega)] at he
    repeat' ((first|refine nI ?_|refine aI ?_|refine tI ?_|refine fI ?_|fail);conv=>whnf)
    exact⟨ac (by rw[he];rfl),rfl⟩
   ·repeat' ((first|refine nI ?_|refine aI ?_|refine tI ?_|refine fI ?_|fail);conv=>whnf)
    refine dC (ay _ _ _) (fun _=>?_) (fun _=>?_)<;>(conv=>whnf)
    case refine_2=>rename_i h;exact absurd w2 h
    rename_i h
    clear h
    rw[aq w3] at he
    repeat' ((first|refine nI ?_|refine aI ?_|refine tI ?_|refine fI ?_|fail);conv=>whnf)
    (refine oP (bl r.send _ (by omega) (by omega)) ?_;conv=>whnf)
    refine ah ?_ ?_<;>(intro hx;conv=>whnf)
    ·exact⟨ac (by rw[he,ar hx]),rfl⟩
    rw[aq (by omega)] at he
    repeat' ((first|refine nI ?_|refine aI ?_|refine tI ?_|refine fI ?_|fail);conv=>whnf)
    (refine oP (bl r.left _ (by omega) (by omega)) ?_;conv=>whnf)
    refine ah ?_ ?_<;>(intro hx;conv=>whnf)
    ·exact⟨ac (by rw[he,ar hx]),rfl⟩
    rw[aq (by omega)] at he
    repeat' ((first|refine nI ?_|refine aI ?_|refine tI ?_|refine fI ?_|fail);conv=>whnf)
    (refine oP (bl r.right _ (by omega) (by omega)) ?_;conv=>whnf)
    refine ah ?_ ?_<;>(intro hx;conv=>whnf)
    ·exact⟨ac (by rw[he,ar hx]),rfl⟩
    rw[aq (by omega)] at he
    repeat' ((first|refine nI ?_|refine aI ?_|refine tI ?_|refine fI ?_|fail);conv=>whnf)
    (refine oP (bl r.parent _ (by omega) (by omega)) ?_;conv=>whnf)
    refine ah ?_ ?_<;>(intro hx;conv=>whnf)
    ·exact⟨ac (by rw[he,ar hx]),rfl⟩
    rw[aq (by omega)] at he
    repeat' ((first|refine nI ?_|refine aI ?_|refine tI ?_|refine fI ?_|fail);conv=>whnf)
    exact⟨ac (by rw[he];rfl),rfl⟩
   ·repeat' ((first|refine nI ?_|refine aI ?_|refine tI ?_|refine fI ?_|fail);conv=>whnf)
    refine dC (ay _ _ _) (fun _=>?_) (fun _=>?_)<;>(conv=>whnf)
    ·rename_i h;exact absurd h w2
    ·exact⟨ac (by rw[he,cX w3]),rfl⟩
  ·repeat' ((first|refine nI ?_|refine aI ?_|refine tI ?_|refine fI ?_|fail);conv=>whnf)
   refine dC (ay _ _ _) (fun _=>?_) (fun _=>?_)<;>(conv=>whnf)
   case refine_2=>rename_i h;exact absurd v2 h
   rename_i h
   clear h
   rw[aq v3] at he
   rcases dY p.values.length r.write (by omega) with ⟨w1,w2⟩|⟨w1,w2,w3⟩|⟨w1,w2,w3⟩
   ·repeat' ((first|refine nI ?_|refine aI ?_|refine tI ?_|refine fI ?_|fail);conv=>whnf)
    rw[aq w2] at he
    repeat' ((first|refine nI ?_|refine aI ?_|refine tI ?_|refine fI ?_|fail);conv=>whnf)
    (refine oP (bl r.send _ (by omega) (by omega)) ?_;conv=>whnf)
    refine ah ?_ ?_<;>(intro hx;conv=>whnf)
    ·exact⟨ac (by rw[he,ar hx]),rfl⟩
    rw[aq (by omega)] at he
    repeat' ((first|refine nI ?_|refine aI ?_|refine tI ?_|refine fI ?_|fail);conv=>whnf)
    (refine oP (bl r.left _ (by omega) (by omega)) ?_;conv=>whnf)
    refine ah ?_ ?_<;>(intro hx;conv=>whnf)
    ·exact⟨ac (by rw[he,ar hx]),rfl⟩
    rw[aq (by omega)] at he
    repeat' ((first|refine nI ?_|refine aI ?_|refine tI ?_|refine fI ?_|fail);conv=>whnf)
    (refine oP (bl r.right _ (by omega) (by omega)) ?_;conv=>whnf)
    refine ah ?_ ?_<;>(intro hx;conv=>whnf)
    ·exact⟨ac (by rw[he,ar hx]),rfl⟩
    rw[aq (by omega)] at he
    repeat' ((first|refine nI ?_|refine aI ?_|refine tI ?_|refine fI ?_|fail);conv=>whnf)
    (refine oP (bl r.parent _ (by omega) (by omega)) ?_;conv=>whnf)
    refine ah ?_ ?_<;>(intro hx;conv=>whnf)
    ·exact⟨ac (by rw[he,ar hx]),rfl⟩
    rw[aq (by omega)] at he
    repeat' ((first|refine nI ?_|refine aI ?_|refine tI ?_|refine fI ?_|fail);conv=>whnf)
    exact⟨ac (by rw[he];rfl),rfl⟩
   ·repeat' ((first|refine nI ?_|refine aI ?_|refine tI ?_|refine fI ?_|fail);conv=>whnf)
    refine dC (ay _ _ _) (fun _=>?_) (fun _=>?_)<;>(conv=>whnf)
    case refine_2=>rename_i h;exact absurd w2 h
    rename_i h
    clear h
    rw[aq w3] at he
    repeat' ((first|refine nI ?_|refine aI ?_|refine tI ?_|refine fI ?_|fail);conv=>whnf)
    (refine oP (bl r.send _ (by omega) (by omega)) ?_;conv=>whnf)
    refine ah ?_ ?_<;>(intro hx;conv=>whnf)
    ·exact⟨ac (by rw[he,ar hx]),rfl⟩
    rw[aq (by omega)] at he
    repeat' ((first|refine nI ?_|refine aI ?_|refine tI ?_|refine fI ?_|fail);conv=>whnf)
    (refine oP (bl r.left _ (by omega) (by omega)) ?_;conv=>whnf)
    refine ah ?_ ?_<;>(intro hx;conv=>whnf)
    ·exact⟨ac (by rw[he,ar hx]),rfl⟩
    rw[aq (by omega)] at he
    repeat' ((first|refine nI ?_|refine aI ?_|refine tI ?_|refine fI ?_|fail);conv=>whnf)
    (refine oP (bl r.right _ (by omega) (by omega)) ?_;conv=>whnf)
    refine ah ?_ ?_<;>(intro hx;conv=>whnf)
    ·exact⟨ac (by rw[he,ar hx]),rfl⟩
    rw[aq (by omega)] at he
    repeat' ((first|refine nI ?_|refine aI ?_|refine tI ?_|refine fI ?_|fail);conv=>whnf)
    (refine oP (bl r.parent _ (by omega) (by omega)) ?_;conv=>whnf)
    refine ah ?_ ?_<;>(intro hx;conv=>whnf)
    ·exact⟨ac (by rw[he,ar hx]),rfl⟩
    rw[aq (by omega)] at he
    repeat' ((first|refine nI ?_|refine aI ?_|refine tI ?_|refine fI ?_|fail);conv=>whnf)
    exact⟨ac (by rw[he];rfl),rfl⟩
   ·repeat' ((first|refine nI ?_|refine aI ?_|refine tI ?_|refine fI ?_|fail);conv=>whnf)
    refine dC (ay _ _ _) (fun _=>?_) (fun _=>?_)<;>(conv=>whnf)
    ·rename_i h;exact absurd h w2
    ·exact⟨ac (by rw[he,cX w3]),rfl⟩
  ·repeat' ((first|refine nI ?_|refine aI ?_|refine tI ?_|refine fI ?_|fail);conv=>whnf)
   refine dC (ay _ _ _) (fun _=>?_) (fun _=>?_)<;>(conv=>whnf)
   ·rename_i h;exact absurd h v2
   ·exact⟨ac (by rw[he,cX v3]),rfl⟩
 ·rw[if_pos (.inl k),if_pos (.inl k),if_neg (by omega),if_neg (by omega),if_neg (by omega)] at he
  refine dC (ay _ _ _) (fun _=>?_) (fun _=>?_)<;>(conv=>whnf)
  case refine_2=>rename_i h;omega
  repeat' ((first|refine nI ?_|refine aI ?_|refine tI ?_|refine fI ?_|fail);conv=>whnf)
  refine dC (lW p r hf) (fun _=>?_) (fun _=>?_)<;>(conv=>whnf)
  ·rename_i h;exact absurd h hs
  repeat' ((first|refine nI ?_|refine aI ?_|refine tI ?_|refine fI ?_|fail);conv=>whnf)
  refine dC (ay _ _ _) (fun _=>?_) (fun _=>?_)<;>(conv=>whnf)
  case refine_2=>rename_i h;exact⟨ac (by rw[he,cX (bM h)]),rfl⟩
  rename_i h
  rw[aq (bD h)] at he
  clear h
  repeat' ((first|refine nI ?_|refine aI ?_|refine tI ?_|refine fI ?_|fail);conv=>whnf)
  refine dC (ay _ _ _) (fun _=>?_) (fun _=>?_)<;>(conv=>whnf)
  case refine_2=>rename_i h;exact⟨ac (by rw[he,cX (bM h)]),rfl⟩
  rename_i h
  rw[aq (bD h)] at he
  clear h
  repeat' ((first|refine nI ?_|refine aI ?_|refine tI ?_|refine fI ?_|fail);conv=>whnf)
  refine dC (ay _ _ _) (fun _=>?_) (fun _=>?_)<;>(conv=>whnf)
  case refine_2=>rename_i h;exact⟨ac (by rw[he,cX (bM h)]),rfl⟩
  rename_i h
  rw[aq (bD h)] at he
  clear h
  repeat' ((first|refine nI ?_|refine aI ?_|refine tI ?_|refine fI ?_|fail);conv=>whnf)
  refine dC (ay _ _ _) (fun _=>?_) (fun _=>?_)<;>(conv=>whnf)
  case refine_2=>rename_i h;exact⟨ac (by rw[he,cX (bM h)]),rfl⟩
  rename_i h
  rw[aq (bD h)] at he
  clear h
  rw[aq rfl] at he
  repeat' ((first|refine nI ?_|refine aI ?_|refine tI ?_|refine fI ?_|fail);conv=>whnf)
  refine aQ.loopF ae ag (fun j:Nat=>j<=r.guards.length/\ci (r.guards.map (gE p.messages.length))=ci ((r.guards.drop j).map (gE p.messages.length))) (fun j=>[(10, .int .i64 (j:Int))]) (fun _=>[(5, .box 180 (eg r))]) (fun j=>r.guards.length-j) 0 ⟨by omega,rfl⟩ ?_;conv=>whnf
  refine⟨sI,?_⟩
  rintro j ⟨hj,hjo⟩
  conv=>whnf
  refine ah ?_ ?_<;>(intro h1;conv=>whnf)
  ·refine nI ?_
   rw[tN]
   rw[bW _ aC (by omega)] at hjo
   generalize r.guards.getD j aC=g at hjo
   conv=>whnf
   repeat' ((first|refine nI ?_|refine aI ?_|refine tI ?_|refine fI ?_|fail);conv=>whnf)
   have bad:∀x:Int,x≠0->gE p.messages.length g=x->b9 p i r=x:=fun x hx hg=>by
    rw[hg,if_pos hx] at hjo
    have hge:aK p.messages.length r.guards=x:=by rw[aK,hjo,if_pos hx]
    rw[he,ar (by rw[hge];exact hx),hge]
   refine dC (ay _ _ _) (fun _=>?_) (fun _=>?_)<;>(conv=>whnf)
   case refine_2=>rename_i h;exact⟨ac (bad 5 (by decide) (by rw[gE,cX (bM h)])).symm,rfl⟩
   rename_i g1
   refine dC (ay _ _ _) (fun _=>?_) (fun _=>?_)<;>(conv=>whnf)
   case refine_2=>rename_i h;exact⟨ac (bad 1 (by decide) (by rw[gE,aq (bD g1),eI,if_pos (by omega),ar (by decide)])).symm,rfl⟩
   rename_i g2
   refine dC (Cb g.bound) (fun _=>?_) (fun _=>?_)<;>(conv=>whnf)
   case refine_2=>rename_i h;exact⟨ac (bad 4 (by decide) (by rw[gE,aq (bD g1),eI,if_neg (by omega),aq rfl,jz,if_neg h,ar (by decide)])).symm,rfl⟩
   rename_i g3
   rw[if_neg (by rw[w4 g1 g2 g3];simp)] at hjo
   repeat' ((first|refine nI ?_|refine aI ?_|refine tI ?_|refine fI ?_|fail);conv=>whnf)
   exact⟨j+1,sI,⟨by omega,hjo⟩,by dsimp only;omega⟩
  obtain rfl:j=r.guards.length:=by omega
  rw[List.drop_length] at hjo
  have hjo:ci (r.guards.map (gE p.messages.length))=0:=hjo
  refine ah ?_ ?_<;>(intro hx;conv=>whnf)
  ·exact⟨ac (by rw[he,aK,hjo,if_neg (by simp),if_pos (by omega),ar (by decide)]),rfl⟩
  rw[aK,hjo,if_neg (by simp),if_neg (by omega),aq rfl] at he
  repeat' ((first|refine nI ?_|refine aI ?_|refine tI ?_|refine fI ?_|fail);conv=>whnf)
  (refine oP (bl r.some_ _ (by omega) (by omega)) ?_;conv=>whnf)
  refine ah ?_ ?_<;>(intro hx;conv=>whnf)
  ·exact⟨ac (by rw[he,ar hx]),rfl⟩
  rw[aq (by omega)] at he
  repeat' ((first|refine nI ?_|refine aI ?_|refine tI ?_|refine fI ?_|fail);conv=>whnf)
  (refine oP (bl r.forall_ _ (by omega) (by omega)) ?_;conv=>whnf)
  refine ah ?_ ?_<;>(intro hx;conv=>whnf)
  ·exact⟨ac (by rw[he,ar hx]),rfl⟩
  rw[aq (by omega)] at he
  rcases dY p.values.length r.read (by omega) with ⟨v1,v2⟩|⟨v1,v2,v3⟩|⟨v1,v2,v3⟩
  ·repeat' ((first|refine nI ?_|refine aI ?_|refine tI ?_|refine fI ?_|fail);conv=>whnf)
   rw[aq v2] at he
   rcases dY p.values.length r.write (by omega) with ⟨w1,w2⟩|⟨w1,w2,w3⟩|⟨w1,w2,w3⟩
   ·repeat' ((first|refine nI ?_|refine aI ?_|refine tI ?_|refine fI ?_|fail);conv=>whnf)
    rw[aq w2] at he
    repeat' ((first|refine nI ?_|refine aI ?_|refine tI ?_|refine fI ?_|fail);conv=>whnf)
    (refine oP (bl r.send _ (by omega) (by omega)) ?_;conv=>whnf)
    refine ah ?_ ?_<;>(intro hx;conv=>whnf)
    ·exact⟨ac (by rw[he,ar hx]),rfl⟩
    rw[aq (by omega)] at he
    repeat' ((first|refine nI ?_|refine aI ?_|refine tI ?_|refine fI ?_|fail);conv=>whnf)
    (refine oP (bl r.left _ (by omega) (by omega)) ?_;conv=>whnf)
    refine ah ?_ ?_<;>(intro hx;conv=>whnf)
    ·exact⟨ac (by rw[he,ar hx]),rfl⟩
    rw[aq (by omega)] at he
    repeat' ((first|refine nI ?_|refine aI ?_|refine tI ?_|refine fI ?_|fail);conv=>whnf)
    (refine oP (bl r.right _ (by omega) (by omega)) ?_;conv=>whnf)
    refine ah ?_ ?_<;>(intro hx;conv=>whnf)
    ·exact⟨ac (by rw[he,ar hx]),rfl⟩
    rw[aq (by omega)] at he
    repeat' ((first|refine nI ?_|refine aI ?_|refine tI ?_|refine fI ?_|fail);conv=>whnf)
    (refine oP (bl r.parent _ (by omega) (by omega)) ?_;conv=>whnf)
    refine ah ?_ ?_<;>(intro hx;conv=>whnf)
    ·exact⟨ac (by rw[he,ar hx]),rfl⟩
    rw[aq (by omega)] at he
    repeat' ((first|refine nI ?_|refine aI ?_|refine tI ?_|refine fI ?_|fail);conv=>whnf)
    exact⟨ac (by rw[he];rfl),rfl⟩
   ·repeat' ((first|refine nI ?_|refine aI ?_|refine tI ?_|refine fI ?_|fail);conv=>whnf)
    refine dC (ay _ _ _) (fun _=>?_) (fun _=>?_)<;>(conv=>whnf)
    case refine_2=>rename_i h;exact absurd w2 h
    rename_i h
    clear h
    rw[aq w3] at he
    repeat' ((first|refine nI ?_|refine aI ?_|refine tI ?_|refine fI ?_|fail);conv=>whnf)
    (refine oP (bl r.send _ (by omega) (by omega)) ?_;conv=>whnf)
    refine ah ?_ ?_<;>(intro hx;conv=>whnf)
    ·exact⟨ac (by rw[he,ar hx]),rfl⟩
    rw[aq (by omega)] at he
    repeat' ((first|refine nI ?_|refine aI ?_|refine tI ?_|refine fI ?_|fail);conv=>whnf)
    (refine oP (bl r.left _ (by omega) (by omega)) ?_;conv=>whnf)
    refine ah ?_ ?_<;>(intro hx;conv=>whnf)
    ·exact⟨ac (by rw[he,ar hx]),rfl⟩
    rw[aq (by omega)] at he
    repeat' ((first|refine nI ?_|refine aI ?_|refine tI ?_|refine fI ?_|fail);conv=>whnf)
    (refine oP (bl r.right _ (by omega) (by omega)) ?_;conv=>whnf)
    refine ah ?_ ?_<;>(intro hx;conv=>whnf)
    ·exact⟨ac (by rw[he,ar hx]),rfl⟩
    rw[aq (by omega)] at he
    repeat' ((first|refine nI ?_|refine aI ?_|refine tI ?_|refine fI ?_|fail);conv=>whnf)
    (refine oP (bl r.parent _ (by omega) (by omega)) ?_;conv=>whnf)
    refine ah ?_ ?_<;>(intro hx;conv=>whnf)
    ·exact⟨ac (by rw[he,ar hx]),rfl⟩
    rw[aq (by omega)] at he
    repeat' ((first|refine nI ?_|refine aI ?_|refine tI ?_|refine fI ?_|fail);conv=>whnf)
    exact⟨ac (by rw[he];rfl),rfl⟩
   ·repeat' ((first|refine nI ?_|refine aI ?_|refine tI ?_|refine fI ?_|fail);conv=>whnf)
    refine dC (ay _ _ _) (fun _=>?_) (fun _=>?_)<;>(conv=>whnf)
    ·rename_i h;exact absurd h w2
    ·exact⟨ac (by rw[he,cX w3]),rfl⟩
  ·repeat' ((first|refine nI ?_|refine aI ?_|refine tI ?_|refine fI ?_|fail);conv=>whnf)
   refine dC (ay _ _ _) (fun _=>?_) (fun _=>?_)<;>(conv=>whnf)
   case refine_2=>rename_i h;exact absurd v2 h
   rename_i h
   clear h
   rw[aq v3] at he
   rcases dY p.values.length r.write (by omega) with ⟨w1,w2⟩|⟨w1,w2,w3⟩|⟨w1,w2,w3⟩
   ·repeat' ((first|refine nI ?_|refine aI ?_|refine tI ?_|refine fI ?_|fail);conv=>whnf)
    rw[aq w2] at he
    repeat' ((first|refine nI ?_|refine aI ?_|refine tI ?_|refine fI ?_|fail);conv=>whnf)
    (refine oP (bl r.send _ (by omega) (by omega)) ?_;conv=>whnf)
    refine ah ?_ ?_<;>(intro hx;conv=>whnf)
    ·exact⟨ac (by rw[he,ar hx]),rfl⟩
    rw[aq (by omega)] at he
    repeat' ((first|refine nI ?_|refine aI ?_|refine tI ?_|refine fI ?_|fail);conv=>whnf)
    (refine oP (bl r.left _ (by omega) (by omega)) ?_;conv=>whnf)
    refine ah ?_ ?_<;>(intro hx;conv=>whnf)
    ·exact⟨ac (by rw[he,ar hx]),rfl⟩
    rw[aq (by omega)] at he
    repeat' ((first|refine nI ?_|refine aI ?_|refine tI ?_|refine fI ?_|fail);conv=>whnf)
    (refine oP (bl r.right _ (by omega) (by omega)) ?_;conv=>whnf)
    refine ah ?_ ?_<;>(intro hx;conv=>whnf)
    ·exact⟨ac (by rw[he,ar hx]),rfl⟩
    rw[aq (by omega)] at he
    repeat' ((first|refine nI ?_|refine aI ?_|refine tI ?_|refine fI ?_|fail);conv=>whnf)
    (refine oP (bl r.parent _ (by omega) (by omega)) ?_;conv=>whnf)
    refine ah ?_ ?_<;>(intro hx;conv=>whnf)
    ·exact⟨ac (by rw[he,ar hx]),rfl⟩
    rw[aq (by omega)] at he
    repeat' ((first|refine nI ?_|refine aI ?_|refine tI ?_|refine fI ?_|fail);conv=>whnf)
    exact⟨ac (by rw[he];rfl),rfl⟩
   ·repeat' ((first|refine nI ?_|refine aI ?_|refine tI ?_|refine fI ?_|fail);conv=>whnf)
    refine dC (ay _ _ _) (fun _=>?_) (fun _=>?_)<;>(conv=>whnf)
    case refine_2=>rename_i h;exact absurd w2 h
    rename_i h
    clear h
    rw[aq w3] at he
    repeat' ((first|refine nI ?_|refine aI ?_|refine tI ?_|refine fI ?_|fail);conv=>whnf)
    (refine oP (bl r.send _ (by omega) (by omega)) ?_;conv=>whnf)
    refine ah ?_ ?_<;>(intro hx;conv=>whnf)
    ·exact⟨ac (by rw[he,ar hx]),rfl⟩
    rw[aq (by omega)] at he
    repeat' ((first|refine nI ?_|refine aI ?_|refine tI ?_|refine fI ?_|fail);conv=>whnf)
    (refine oP (bl r.left _ (by omega) (by omega)) ?_;conv=>whnf)
    refine ah ?_ ?_<;>(intro hx;conv=>whnf)
    ·exact⟨ac (by rw[he,ar hx]),rfl⟩
    rw[aq (by omega)] at he
    repeat' ((first|refine nI ?_|refine aI ?_|refine tI ?_|refine fI ?_|fail);conv=>whnf)
    (refine oP (bl r.right _ (by omega) (by omega)) ?_;conv=>whnf)
    refine ah ?_ ?_<;>(intro hx;conv=>whnf)
    ·exact⟨ac (by rw[he,ar hx]),rfl⟩
    rw[aq (by omega)] at he
    repeat' ((first|refine nI ?_|refine aI ?_|refine tI ?_|refine fI ?_|fail);conv=>whnf)
    (refine oP (bl r.parent _ (by omega) (by omega)) ?_;conv=>whnf)
    refine ah ?_ ?_<;>(intro hx;conv=>whnf)
    ·exact⟨ac (by rw[he,ar hx]),rfl⟩
    rw[aq (by omega)] at he
    repeat' ((first|refine nI ?_|refine aI ?_|refine tI ?_|refine fI ?_|fail);conv=>whnf)
    exact⟨ac (by rw[he];rfl),rfl⟩
   ·repeat' ((first|refine nI ?_|refine aI ?_|refine tI ?_|refine fI ?_|fail);conv=>whnf)
    refine dC (ay _ _ _) (fun _=>?_) (fun _=>?_)<;>(conv=>whnf)
    ·rename_i h;exact absurd h w2
    ·exact⟨ac (by rw[he,cX w3]),rfl⟩
  ·repeat' ((first|refine nI ?_|refine aI ?_|refine tI ?_|refine fI ?_|fail);conv=>whnf)
   refine dC (ay _ _ _) (fun _=>?_) (fun _=>?_)<;>(conv=>whnf)
   ·rename_i h;exact absurd h v2
   ·exact⟨ac (by rw[he,cX v3]),rfl⟩
 ·rw[if_neg (by omega),if_neg (by omega),if_pos k,if_neg (by omega),if_neg (by omega)] at he
  refine dC (ay _ _ _) (fun _=>?_) (fun _=>?_)<;>(conv=>whnf)
  case refine_2=>rename_i h;omega
  repeat' ((first|refine nI ?_|refine aI ?_|refine tI ?_|refine fI ?_|fail);conv=>whnf)
  refine dC (lW p r hf) (fun _=>?_) (fun _=>?_)<;>(conv=>whnf)
  ·rename_i h;exact absurd h hs
  repeat' ((first|refine nI ?_|refine aI ?_|refine tI ?_|refine fI ?_|fail);conv=>whnf)
  refine dC (ay _ _ _) (fun _=>?_) (fun _=>?_)<;>(conv=>whnf)
  case refine_2=>rename_i h;exact⟨ac (by rw[he,cX (bM h)]),rfl⟩
  rename_i h
  rw[aq (bD h)] at he
  clear h
  repeat' ((first|refine nI ?_|refine aI ?_|refine tI ?_|refine fI ?_|fail);conv=>whnf)
  refine dC (ay _ _ _) (fun _=>?_) (fun _=>?_)<;>(conv=>whnf)
  case refine_2=>rename_i h;exact⟨ac (by rw[he,cX (bM h)]),rfl⟩
  rename_i h
  rw[aq (bD h)] at he
  clear h
  rw[aq rfl,aq rfl] at he
  refine cC k ?_
  conv=>whnf
  refine ah ?_ ?_<;>(intro hx;conv=>whnf)
  ·exact⟨ac (by rw[he,i9,if_pos hx,ar (by decide)]),rfl⟩
  refine aQ.loopF ae ag (fun j:Nat=>j<=r.response.length/\∀q,q<j->0<=r.response.getD q 0/\r.response.getD q 0<p.states.length) (fun j=>[(9, .int .i64 (j:Int))]) (fun _=>[(5, .box 180 (eg r))]) (fun j=>r.response.length-j) 0 ⟨by omega,fun q hq=>by omega⟩ ?_;conv=>whnf
  refine⟨sI,?_⟩
  rintro j ⟨hj,hja⟩
  conv=>whnf
  refine ah ?_ ?_<;>(intro h1;conv=>whnf)
  ·refine nI ?_
   rw[tN]
   conv=>whnf
   repeat' ((first|refine nI ?_|refine aI ?_|refine tI ?_|refine fI ?_|fail);conv=>whnf)
   refine dC (ay _ _ _) (fun _=>?_) (fun _=>?_)<;>(conv=>whnf)
   ·rename_i h
    repeat' ((first|refine nI ?_|refine aI ?_|refine tI ?_|refine fI ?_|fail);conv=>whnf)
    refine⟨j+1,sI,⟨by omega,fun q hq=>?_⟩,by dsimp only;omega⟩
    by_cases e:q=j
    ·subst e;omega
    ·exact hja q (by omega)
   ·rename_i h
    refine⟨ac ?_,rfl⟩
    rw[he,i9,if_neg hx,if_neg (fun hh:lV r.response p.states.length=>by have:=hh j (by omega);omega),ar (by decide)]
  rw[i9,if_neg hx,if_pos (show lV r.response p.states.length from fun q hq=>hja q (by omega)),aq rfl] at he
  repeat' ((first|refine nI ?_|refine aI ?_|refine tI ?_|refine fI ?_|fail);conv=>whnf)
  refine aQ.loopF ae ag (fun j:Nat=>j<=r.guards.length/\ci (r.guards.map (gE p.messages.length))=ci ((r.guards.drop j).map (gE p.messages.length))) (fun j=>[(10, .int .i64 (j:Int))]) (fun _=>[(5, .box 180 (eg r))]) (fun j=>r.guards.length-j) 0 ⟨by omega,rfl⟩ ?_;conv=>whnf
  refine⟨sI,?_⟩
  rintro j ⟨hj,hjo⟩
  conv=>whnf
  refine ah ?_ ?_<;>(intro h1;conv=>whnf)
  ·refine nI ?_
   rw[tN]
   rw[bW _ aC (by omega)] at hjo
   generalize r.guards.getD j aC=g at hjo
   conv=>whnf
   repeat' ((first|refine nI ?_|refine aI ?_|refine tI ?_|refine fI ?_|fail);conv=>whnf)
   have bad:∀x:Int,x≠0->gE p.messages.length g=x->b9 p i r=x:=fun x hx hg=>by
    rw[hg,if_pos hx] at hjo
    have hge:aK p.messages.length r.guards=x:=by rw[aK,hjo,if_pos hx]
    rw[he,ar (by rw[hge];exact hx),hge]
   refine dC (ay _ _ _) (fun _=>?_) (fun _=>?_)<;>(conv=>whnf)
   case refine_2=>rename_i h;exact⟨ac (bad 5 (by decide) (by rw[gE,cX (bM h)])).symm,rfl⟩
   rename_i g1
   refine dC (ay _ _ _) (fun _=>?_) (fun _=>?_)<;>(conv=>whnf)
   case refine_2=>rename_i h;exact⟨ac (bad 1 (by decide) (by rw[gE,aq (bD g1),eI,if_pos (by omega),ar (by decide)])).symm,rfl⟩
   rename_i g2
   refine dC (Cb g.bound) (fun _=>?_) (fun _=>?_)<;>(conv=>whnf)
   case refine_2=>rename_i h;exact⟨ac (bad 4 (by decide) (by rw[gE,aq (bD g1),eI,if_neg (by omega),aq rfl,jz,if_neg h,ar (by decide)])).symm,rfl⟩
   rename_i g3
   rw[if_neg (by rw[w4 g1 g2 g3];simp)] at hjo
   repeat' ((first|refine nI ?_|refine aI ?_|refine tI ?_|refine fI ?_|fail);conv=>whnf)
   exact⟨j+1,sI,⟨by omega,hjo⟩,by dsimp only;omega⟩
  obtain rfl:j=r.guards.length:=by omega
  rw[List.drop_length] at hjo
  have hjo:ci (r.guards.map (gE p.messages.length))=0:=hjo
  refine ah ?_ ?_<;>(intro hx;conv=>whnf)
  ·exact⟨ac (by rw[he,aK,hjo,if_neg (by simp),if_pos (by omega),ar (by decide)]),rfl⟩
  rw[aK,hjo,if_neg (by simp),if_neg (by omega),aq rfl] at he
  repeat' ((first|refine nI ?_|refine aI ?_|refine tI ?_|refine fI ?_|fail);conv=>whnf)
  (refine oP (bl r.some_ _ (by omega) (by omega)) ?_;conv=>whnf)
  refine ah ?_ ?_<;>(intro hx;conv=>whnf)
  ·exact⟨ac (by rw[he,ar hx]),rfl⟩
  rw[aq (by omega)] at he
  repeat' ((first|refine nI ?_|refine aI ?_|refine tI ?_|refine fI ?_|fail);conv=>whnf)
  (refine oP (bl r.forall_ _ (by omega) (by omega)) ?_;conv=>whnf)
  refine ah ?_ ?_<;>(intro hx;conv=>whnf)
  ·exact⟨ac (by rw[he,ar hx]),rfl⟩
  rw[aq (by omega)] at he
  rcases dY p.values.length r.read (by omega) with ⟨v1,v2⟩|⟨v1,v2,v3⟩|⟨v1,v2,v3⟩
  ·repeat' ((first|refine nI ?_|refine aI ?_|refine tI ?_|refine fI ?_|fail);conv=>whnf)
   rw[aq v2] at he
   rcases dY p.values.length r.write (by omega) with ⟨w1,w2⟩|⟨w1,w2,w3⟩|⟨w1,w2,w3⟩
   ·repeat' ((first|refine nI ?_|refine aI ?_|refine tI ?_|refine fI ?_|fail);conv=>whnf)
    rw[aq w2] at he
    repeat' ((first|refine nI ?_|refine aI ?_|refine tI ?_|refine fI ?_|fail);conv=>whnf)
    (refine oP (bl r.send _ (by omega) (by omega)) ?_;conv=>whnf)
    refine ah ?_ ?_<;>(intro hx;conv=>whnf)
    ·exact⟨ac (by rw[he,ar hx]),rfl⟩
    rw[aq (by omega)] at he
    repeat' ((first|refine nI ?_|refine aI ?_|refine tI ?_|refine fI ?_|fail);conv=>whnf)
    (refine oP (bl r.left _ (by omega) (by omega)) ?_;conv=>whnf)
    refine ah ?_ ?_<;>(intro hx;conv=>whnf)
    ·exact⟨ac (by rw[he,ar hx]),rfl⟩
    rw[aq (by omega)] at he
    repeat' ((first|refine nI ?_|refine aI ?_|refine tI ?_|refine fI ?_|fail);conv=>whnf)
    (refine oP (bl r.right _ (by omega) (by omega)) ?_;conv=>whnf)
    refine ah ?_ ?_<;>(intro hx;conv=>whnf)
    ·exact⟨ac (by rw[he,ar hx]),rfl⟩
    rw[aq (by omega)] at he
    repeat' ((first|refine nI ?_|refine aI ?_|refine tI ?_|refine fI ?_|fail);conv=>whnf)
    (refine oP (bl r.parent _ (by omega) (by omega)) ?_;conv=>whnf)
    refine ah ?_ ?_<;>(intro hx;conv=>whnf)
    ·exact⟨ac (by rw[he,ar hx]),rfl⟩
    rw[aq (by omega)] at he
    repeat' ((first|refine nI ?_|refine aI ?_|refine tI ?_|refine fI ?_|fail);conv=>whnf)
    exact⟨ac (by rw[he];rfl),rfl⟩
   ·repeat' ((first|refine nI ?_|refine aI ?_|refine tI ?_|refine fI ?_|fail);conv=>whnf)
    refine dC (ay _ _ _) (fun _=>?_) (fun _=>?_)<;>(conv=>whnf)
    case refine_2=>rename_i h;exact absurd w2 h
    rename_i h
    clear h
    rw[aq w3] at he
    repeat' ((first|refine nI ?_|refine aI ?_|refine tI ?_|refine fI ?_|fail);conv=>whnf)
    (refine oP (bl r.send _ (by omega) (by omega)) ?_;conv=>whnf)
    refine ah ?_ ?_<;>(intro hx;conv=>whnf)
    ·exact⟨ac (by rw[he,ar hx]),rfl⟩
    rw[aq (by omega)] at he
    repeat' ((first|refine nI ?_|refine aI ?_|refine tI ?_|refine fI ?_|fail);conv=>whnf)
    (refine oP (bl r.left _ (by omega) (by omega)) ?_;conv=>whnf)
    refine ah ?_ ?_<;>(intro hx;conv=>whnf)
    ·exact⟨ac (by rw[he,ar hx]),rfl⟩
    rw[aq (by omega)] at he
    repeat' ((first|refine nI ?_|refine aI ?_|refine tI ?_|refine fI ?_|fail);conv=>whnf)
    (refine oP (bl r.right _ (by omega) (by omega)) ?_;conv=>whnf)
    refine ah ?_ ?_<;>(intro hx;conv=>whnf)
    ·exact⟨ac (by rw[he,ar hx]),rfl⟩
    rw[aq (by omega)] at he
    repeat' ((first|refine nI ?_|refine aI ?_|refine tI ?_|refine fI ?_|fail);conv=>whnf)
    (refine oP (bl r.parent _ (by omega) (by omega)) ?_;conv=>whnf)
    refine ah ?_ ?_<;>(intro hx;conv=>whnf)
    ·exact⟨ac (by rw[he,ar hx]),rfl⟩
    rw[aq (by omega)] at he
    repeat' ((first|refine nI ?_|refine aI ?_|refine tI ?_|refine fI ?_|fail);conv=>whnf)
    exact⟨ac (by rw[he];rfl),rfl⟩
   ·repeat' ((first|refine nI ?_|refine aI ?_|refine tI ?_|refine fI ?_|fail);conv=>whnf)
    refine dC (ay _ _ _) (fun _=>?_) (fun _=>?_)<;>(conv=>whnf)
    ·rename_i h;exact absurd h w2
    ·exact⟨ac (by rw[he,cX w3]),rfl⟩
  ·repeat' ((first|refine nI ?_|refine aI ?_|refine tI ?_|refine fI ?_|fail);conv=>whnf)
   refine dC (ay _ _ _) (fun _=>?_) (fun _=>?_)<;>(conv=>whnf)
   case refine_2=>rename_i h;exact absurd v2 h
   rename_i h
   clear h
   rw[aq v3] at he
   rcases dY p.values.length r.write (by omega) with ⟨w1,w2⟩|⟨w1,w2,w3⟩|⟨w1,w2,w3⟩
   ·repeat' ((first|refine nI ?_|refine aI ?_|refine tI ?_|refine fI ?_|fail);conv=>whnf)
    rw[aq w2] at he
    repeat' ((first|refine nI ?_|refine aI ?_|refine tI ?_|refine fI ?_|fail);conv=>whnf)
    (refine oP (bl r.send _ (by omega) (by omega)) ?_;conv=>whnf)
    refine ah ?_ ?_<;>(intro hx;conv=>whnf)
    ·exact⟨ac (by rw[he,ar hx]),rfl⟩
    rw[aq (by omega)] at he
    repeat' ((first|refine nI ?_|refine aI ?_|refine tI ?_|refine fI ?_|fail);conv=>whnf)
    (refine oP (bl r.left _ (by omega) (by omega)) ?_;conv=>whnf)
    refine ah ?_ ?_<;>(intro hx;conv=>whnf)
    ·exact⟨ac (by rw[he,ar hx]),rfl⟩
    rw[aq (by omega)] at he
    repeat' ((first|refine nI ?_|refine aI ?_|refine tI ?_|refine fI ?_|fail);conv=>whnf)
    (refine oP (bl r.right _ (by omega) (by omega)) ?_;conv=>whnf)
    refine ah ?_ ?_<;>(intro hx;conv=>whnf)
    ·exact⟨ac (by rw[he,ar hx]),rfl⟩
    rw[aq (by omega)] at he
    repeat' ((first|refine nI ?_|refine aI ?_|refine tI ?_|refine fI ?_|fail);conv=>whnf)
    (refine oP (bl r.parent _ (by omega) (by omega)) ?_;conv=>whnf)
    refine ah ?_ ?_<;>(intro hx;conv=>whnf)
    ·exact⟨ac (by rw[he,ar hx]),rfl⟩
    rw[aq (by omega)] at he
    repeat' ((first|refine nI ?_|refine aI ?_|refine tI ?_|refine fI ?_|fail);conv=>whnf)
    exact⟨ac (by rw[he];rfl),rfl⟩
   ·repeat' ((first|refine nI ?_|refine aI ?_|refine tI ?_|refine fI ?_|fail);conv=>whnf)
    refine dC (ay _ _ _) (fun _=>?_) (fun _=>?_)<;>(conv=>whnf)
    case refine_2=>rename_i h;exact absurd w2 h
    rename_i h
    clear h
    rw[aq w3] at he
    repeat' ((first|refine nI ?_|refine aI ?_|refine tI ?_|refine fI ?_|fail);conv=>whnf)
    (refine oP (bl r.send _ (by omega) (by omega)) ?_;conv=>whnf)
    refine ah ?_ ?_<;>(intro hx;conv=>whnf)
    ·exact⟨ac (by rw[he,ar hx]),rfl⟩
    rw[aq (by omega)] at he
    repeat' ((first|refine nI ?_|refine aI ?_|refine tI ?_|refine fI ?_|fail);conv=>whnf)
    (refine oP (bl r.left _ (by omega) (by omega)) ?_;conv=>whnf)
    refine ah ?_ ?_<;>(intro hx;conv=>whnf)
    ·exact⟨ac (by rw[he,ar hx]),rfl⟩
    rw[aq (by omega)] at he
    repeat' ((first|refine nI ?_|refine aI ?_|refine tI ?_|refine fI ?_|fail);conv=>whnf)
    (refine oP (bl r.right _ (by omega) (by omega)) ?_;conv=>whnf)
    refine ah ?_ ?_<;>(intro hx;conv=>whnf)
    ·exact⟨ac (by rw[he,ar hx]),rfl⟩
    rw[aq (by omega)] at he
    repeat' ((first|refine nI ?_|refine aI ?_|refine tI ?_|refine fI ?_|fail);conv=>whnf)
    (refine oP (bl r.parent _ (by omega) (by omega)) ?_;conv=>whnf)
    refine ah ?_ ?_<;>(intro hx;conv=>whnf)
    ·exact⟨ac (by rw[he,ar hx]),rfl⟩
    rw[aq (by omega)] at he
    repeat' ((first|refine nI ?_|refine aI ?_|refine tI ?_|refine fI ?_|fail);conv=>whnf)
    exact⟨ac (by rw[he];rfl),rfl⟩
   ·repeat' ((first|refine nI ?_|refine aI ?_|refine tI ?_|refine fI ?_|fail);conv=>whnf)
    refine dC (ay _ _ _) (fun _=>?_) (fun _=>?_)<;>(conv=>whnf)
    ·rename_i h;exact absurd h w2
    ·exact⟨ac (by rw[he,cX w3]),rfl⟩
  ·repeat' ((first|refine nI ?_|refine aI ?_|refine tI ?_|refine fI ?_|fail);conv=>whnf)
   refine dC (ay _ _ _) (fun _=>?_) (fun _=>?_)<;>(conv=>whnf)
   ·rename_i h;exact absurd h v2
   ·exact⟨ac (by rw[he,cX v3]),rfl⟩
 ·rw[if_neg (by omega),if_neg (by omega),if_neg (by omega),if_pos k,if_neg (by omega)] at he
  refine dC (ay _ _ _) (fun _=>?_) (fun _=>?_)<;>(conv=>whnf)
  case refine_2=>rename_i h;omega
  repeat' ((first|refine nI ?_|refine aI ?_|refine tI ?_|refine fI ?_|fail);conv=>whnf)
  refine dC (lW p r hf) (fun _=>?_) (fun _=>?_)<;>(conv=>whnf)
  ·rename_i h;exact absurd h hs
  repeat' ((first|refine nI ?_|refine aI ?_|refine tI ?_|refine fI ?_|fail);conv=>whnf)
  refine dC (ay _ _ _) (fun _=>?_) (fun _=>?_)<;>(conv=>whnf)
  case refine_2=>rename_i h;exact⟨ac (by rw[he,cX (bM h)]),rfl⟩
  rename_i h
  rw[aq (bD h)] at he
  clear h
  repeat' ((first|refine nI ?_|refine aI ?_|refine tI ?_|refine fI ?_|fail);conv=>whnf)
  refine dC (ay _ _ _) (fun _=>?_) (fun _=>?_)<;>(conv=>whnf)
  case refine_2=>rename_i h;exact⟨ac (by rw[he,cX (bM h)]),rfl⟩
  rename_i h
  rw[aq (bD h)] at he
  clear h
  rw[aq rfl,aq rfl,aq rfl] at he
  repeat' ((first|refine nI ?_|refine aI ?_|refine tI ?_|refine fI ?_|fail);conv=>whnf)
  refine aQ.loopF ae ag (fun j:Nat=>j<=r.guards.length/\ci (r.guards.map (gE p.messages.length))=ci ((r.guards.drop j).map (gE p.messages.length))) (fun j=>[(10, .int .i64 (j:Int))]) (fun _=>[(5, .box 180 (eg r))]) (fun j=>r.guards.length-j) 0 ⟨by omega,rfl⟩ ?_;conv=>whnf
  refine⟨sI,?_⟩
  rintro j ⟨hj,hjo⟩
  conv=>whnf
  refine ah ?_ ?_<;>(intro h1;conv=>whnf)
  ·refine nI ?_
   rw[tN]
   rw[bW _ aC (by omega)] at hjo
   generalize r.guards.getD j aC=g at hjo
   conv=>whnf
   repeat' ((first|refine nI ?_|refine aI ?_|refine tI ?_|refine fI ?_|fail);conv=>whnf)
   have bad:∀x:Int,x≠0->gE p.messages.length g=x->b9 p i r=x:=fun x hx hg=>by
    rw[hg,if_pos hx] at hjo
    have hge:aK p.messages.length r.guards=x:=by rw[aK,hjo,if_pos hx]
    rw[he,ar (by rw[hge];exact hx),hge]
   refine dC (ay _ _ _) (fun _=>?_) (fun _=>?_)<;>(conv=>whnf)
   case refine_2=>rename_i h;exact⟨ac (bad 5 (by decide) (by rw[gE,cX (bM h)])).symm,rfl⟩
   rename_i g1
   refine dC (ay _ _ _) (fun _=>?_) (fun _=>?_)<;>(conv=>whnf)
   case refine_2=>rename_i h;exact⟨ac (bad 1 (by decide) (by rw[gE,aq (bD g1),eI,if_pos (by omega),ar (by decide)])).symm,rfl⟩
   rename_i g2
   refine dC (Cb g.bound) (fun _=>?_) (fun _=>?_)<;>(conv=>whnf)
   case refine_2=>rename_i h;exact⟨ac (bad 4 (by decide) (by rw[gE,aq (bD g1),eI,if_neg (by omega),aq rfl,jz,if_neg h,ar (by decide)])).symm,rfl⟩
   rename_i g3
   rw[if_neg (by rw[w4 g1 g2 g3];simp)] at hjo
   repeat' ((first|refine nI ?_|refine aI ?_|refine tI ?_|refine fI ?_|fail);conv=>whnf)
   exact⟨j+1,sI,⟨by omega,hjo⟩,by dsimp only;omega⟩
  obtain rfl:j=r.guards.length:=by omega
  rw[List.drop_length] at hjo
  have hjo:ci (r.guards.map (gE p.messages.length))=0:=hjo
  refine ah ?_ ?_<;>(intro hx;conv=>whnf)
  ·exact⟨ac (by rw[he,aK,hjo,if_neg (by simp),if_pos (by omega),ar (by decide)]),rfl⟩
  rw[aK,hjo,if_neg (by simp),if_neg (by omega),aq rfl] at he
  repeat' ((first|refine nI ?_|refine aI ?_|refine tI ?_|refine fI ?_|fail);conv=>whnf)
  (refine oP (bl r.some_ _ (by omega) (by omega)) ?_;conv=>whnf)
  refine ah ?_ ?_<;>(intro hx;conv=>whnf)
  ·exact⟨ac (by rw[he,ar hx]),rfl⟩
  rw[aq (by omega)] at he
  repeat' ((first|refine nI ?_|refine aI ?_|refine tI ?_|refine fI ?_|fail);conv=>whnf)
  (refine oP (bl r.forall_ _ (by omega) (by omega)) ?_;conv=>whnf)
  refine ah ?_ ?_<;>(intro hx;conv=>whnf)
  ·exact⟨ac (by rw[he,ar hx]),rfl⟩
  rw[aq (by omega)] at he
  have v1:r.read=-1:=by omega
  repeat' ((first|refine nI ?_|refine aI ?_|refine tI ?_|refine fI ?_|fail);conv=>whnf)
  rw[aq (show eo p.values.length r.read=0 by rw[eo,if_neg (by omega)])] at he
  have w1:r.write=-1:=by omega
  repeat' ((first|refine nI ?_|refine aI ?_|refine tI ?_|refine fI ?_|fail);conv=>whnf)
  rw[aq (show eo p.values.length r.write=0 by rw[eo,if_neg (by omega)])] at he
  repeat' ((first|refine nI ?_|refine aI ?_|refine tI ?_|refine fI ?_|fail);conv=>whnf)
  (refine oP (bl r.send _ (by omega) (by omega)) ?_;conv=>whnf)
  refine ah ?_ ?_<;>(intro hx;conv=>whnf)
  ·exact⟨ac (by rw[he,ar hx]),rfl⟩
  rw[aq (by omega)] at he
  repeat' ((first|refine nI ?_|refine aI ?_|refine tI ?_|refine fI ?_|fail);conv=>whnf)
  (refine oP (bl r.left _ (by omega) (by omega)) ?_;conv=>whnf)
  refine ah ?_ ?_<;>(intro hx;conv=>whnf)
  ·exact⟨ac (by rw[he,ar hx]),rfl⟩
  rw[aq (by omega)] at he
  repeat' ((first|refine nI ?_|refine aI ?_|refine tI ?_|refine fI ?_|fail);conv=>whnf)
  (refine oP (bl r.right _ (by omega) (by omega)) ?_;conv=>whnf)
  refine ah ?_ ?_<;>(intro hx;conv=>whnf)
  ·exact⟨ac (by rw[he,ar hx]),rfl⟩
  rw[aq (by omega)] at he
  repeat' ((first|refine nI ?_|refine aI ?_|refine tI ?_|refine fI ?_|fail);conv=>whnf)
  (refine oP (bl r.parent _ (by omega) (by omega)) ?_;conv=>whnf)
  refine ah ?_ ?_<;>(intro hx;conv=>whnf)
  ·exact⟨ac (by rw[he,ar hx]),rfl⟩
  rw[aq (by omega)] at he
  refine cC k ?_
  conv=>whnf
  refine dC (ay _ _ _) (fun _=>?_) (fun _=>?_)<;>(conv=>whnf)
  ·rename_i h
   repeat' ((first|refine nI ?_|refine aI ?_|refine fb trivial (by omega) ?_|refine fv trivial (by omega) ?_|refine dI ?_|refine dR ?_|refine dP ?_|refine al rfl ?_|refine pI _ rfl ?_|refine aw _ rfl ?_|refine tI ?_|refine fI ?_|refine ah (fun _=>?_) (fun _=>?_))<;>conv=>whnf)
   all_goals first
    |exact⟨ac (by rw[he,Eo,if_pos (by omega)];rfl),rfl⟩
    |exact⟨ac (by rw[he,Eo,if_neg (by omega)];rfl),rfl⟩
  ·rename_i h
   exact⟨ac (by rw[he,Eo,if_pos (by omega)];rfl),rfl⟩
 ·rw[if_pos (.inr k),if_pos (.inr k),if_neg (by omega),if_neg (by omega),if_pos k] at he
  refine dC (ay _ _ _) (fun _=>?_) (fun _=>?_)<;>(conv=>whnf)
  case refine_2=>rename_i h;omega
  repeat' ((first|refine nI ?_|refine aI ?_|refine tI ?_|refine fI ?_|fail);conv=>whnf)
  refine dC (lW p r hf) (fun _=>?_) (fun _=>?_)<;>(conv=>whnf)
  ·rename_i h;exact absurd h hs
  repeat' ((first|refine nI ?_|refine aI ?_|refine tI ?_|refine fI ?_|fail);conv=>whnf)
  refine dC (ay _ _ _) (fun _=>?_) (fun _=>?_)<;>(conv=>whnf)
  case refine_2=>rename_i h;exact⟨ac (by rw[he,cX (bM h)]),rfl⟩
  rename_i h
  rw[aq (bD h)] at he
  clear h
  repeat' ((first|refine nI ?_|refine aI ?_|refine tI ?_|refine fI ?_|fail);conv=>whnf)
  refine dC (ay _ _ _) (fun _=>?_) (fun _=>?_)<;>(conv=>whnf)
  case refine_2=>rename_i h;exact⟨ac (by rw[he,cX (bM h)]),rfl⟩
  rename_i h
  rw[aq (bD h)] at he
  clear h
  repeat' ((first|refine nI ?_|refine aI ?_|refine tI ?_|refine fI ?_|fail);conv=>whnf)
  refine dC (ay _ _ _) (fun _=>?_) (fun _=>?_)<;>(conv=>whnf)
  case refine_2=>rename_i h;exact⟨ac (by rw[he,cX (bM h)]),rfl⟩
  rename_i h
  rw[aq (bD h)] at he
  clear h
  repeat' ((first|refine nI ?_|refine aI ?_|refine tI ?_|refine fI ?_|fail);conv=>whnf)
  refine dC (ay _ _ _) (fun _=>?_) (fun _=>?_)<;>(conv=>whnf)
  case refine_2=>rename_i h;exact⟨ac (by rw[he,cX (bM h)]),rfl⟩
  rename_i h
  rw[aq (bD h)] at he
  clear h
  rw[aq rfl] at he
  repeat' ((first|refine nI ?_|refine aI ?_|refine tI ?_|refine fI ?_|fail);conv=>whnf)
  refine aQ.loopF ae ag (fun j:Nat=>j<=r.guards.length/\ci (r.guards.map (gE p.messages.length))=ci ((r.guards.drop j).map (gE p.messages.length))) (fun j=>[(10, .int .i64 (j:Int))]) (fun _=>[(5, .box 180 (eg r))]) (fun j=>r.guards.length-j) 0 ⟨by omega,rfl⟩ ?_;conv=>whnf
  refine⟨sI,?_⟩
  rintro j ⟨hj,hjo⟩
  conv=>whnf
  refine ah ?_ ?_<;>(intro h1;conv=>whnf)
  ·refine nI ?_
   rw[tN]
   rw[bW _ aC (by omega)] at hjo
   generalize r.guards.getD j aC=g at hjo
   conv=>whnf
   repeat' ((first|refine nI ?_|refine aI ?_|refine tI ?_|refine fI ?_|fail);conv=>whnf)
   have bad:∀x:Int,x≠0->gE p.messages.length g=x->b9 p i r=x:=fun x hx hg=>by
    rw[hg,if_pos hx] at hjo
    have hge:aK p.messages.length r.guards=x:=by rw[aK,hjo,if_pos hx]
    rw[he,ar (by rw[hge];exact hx),hge]
   refine dC (ay _ _ _) (fun _=>?_) (fun _=>?_)<;>(conv=>whnf)
   case refine_2=>rename_i h;exact⟨ac (bad 5 (by decide) (by rw[gE,cX (bM h)])).symm,rfl⟩
   rename_i g1
   refine dC (ay _ _ _) (fun _=>?_) (fun _=>?_)<;>(conv=>whnf)
   case refine_2=>rename_i h;exact⟨ac (bad 1 (by decide) (by rw[gE,aq (bD g1),eI,if_pos (by omega),ar (by decide)])).symm,rfl⟩
   rename_i g2
   refine dC (Cb g.bound) (fun _=>?_) (fun _=>?_)<;>(conv=>whnf)
   case refine_2=>rename_i h;exact⟨ac (bad 4 (by decide) (by rw[gE,aq (bD g1),eI,if_neg (by omega),aq rfl,jz,if_neg h,ar (by decide)])).symm,rfl⟩
   rename_i g3
   rw[if_neg (by rw[w4 g1 g2 g3];simp)] at hjo
   repeat' ((first|refine nI ?_|refine aI ?_|refine tI ?_|refine fI ?_|fail);conv=>whnf)
   exact⟨j+1,sI,⟨by omega,hjo⟩,by dsimp only;omega⟩
  obtain rfl:j=r.guards.length:=by omega
  rw[List.drop_length] at hjo
  have hjo:ci (r.guards.map (gE p.messages.length))=0:=hjo
  refine ah ?_ ?_<;>(intro hx;conv=>whnf)
  ·exact⟨ac (by rw[he,aK,hjo,if_neg (by simp),if_pos (by omega),ar (by decide)]),rfl⟩
  rw[aK,hjo,if_neg (by simp),if_neg (by omega),aq rfl] at he
  repeat' ((first|refine nI ?_|refine aI ?_|refine tI ?_|refine fI ?_|fail);conv=>whnf)
  (refine oP (bl r.some_ _ (by omega) (by omega)) ?_;conv=>whnf)
  refine ah ?_ ?_<;>(intro hx;conv=>whnf)
  ·exact⟨ac (by rw[he,ar hx]),rfl⟩
  rw[aq (by omega)] at he
  repeat' ((first|refine nI ?_|refine aI ?_|refine tI ?_|refine fI ?_|fail);conv=>whnf)
  (refine oP (bl r.forall_ _ (by omega) (by omega)) ?_;conv=>whnf)
  refine ah ?_ ?_<;>(intro hx;conv=>whnf)
  ·exact⟨ac (by rw[he,ar hx]),rfl⟩
  rw[aq (by omega)] at he
  have v1:r.read=-1:=by omega
  repeat' ((first|refine nI ?_|refine aI ?_|refine tI ?_|refine fI ?_|fail);conv=>whnf)
  rw[aq (show eo p.values.length r.read=0 by rw[eo,if_neg (by omega)])] at he
  have w1:r.write=-1:=by omega
  repeat' ((first|refine nI ?_|refine aI ?_|refine tI ?_|refine fI ?_|fail);conv=>whnf)
  rw[aq (show eo p.values.length r.write=0 by rw[eo,if_neg (by omega)])] at he
  repeat' ((first|refine nI ?_|refine aI ?_|refine tI ?_|refine fI ?_|fail);conv=>whnf)
  (refine oP (bl r.send _ (by omega) (by omega)) ?_;conv=>whnf)
  refine ah ?_ ?_<;>(intro hx;conv=>whnf)
  ·exact⟨ac (by rw[he,ar hx]),rfl⟩
  rw[aq (by omega)] at he
  repeat' ((first|refine nI ?_|refine aI ?_|refine tI ?_|refine fI ?_|fail);conv=>whnf)
  (refine oP (bl r.left _ (by omega) (by omega)) ?_;conv=>whnf)
  refine ah ?_ ?_<;>(intro hx;conv=>whnf)
  ·exact⟨ac (by rw[he,ar hx]),rfl⟩
  rw[aq (by omega)] at he
  repeat' ((first|refine nI ?_|refine aI ?_|refine tI ?_|refine fI ?_|fail);conv=>whnf)
  (refine oP (bl r.right _ (by omega) (by omega)) ?_;conv=>whnf)
  refine ah ?_ ?_<;>(intro hx;conv=>whnf)
  ·exact⟨ac (by rw[he,ar hx]),rfl⟩
  rw[aq (by omega)] at he
  repeat' ((first|refine nI ?_|refine aI ?_|refine tI ?_|refine fI ?_|fail);conv=>whnf)
  (refine oP (bl r.parent _ (by omega) (by omega)) ?_;conv=>whnf)
  refine ah ?_ ?_<;>(intro hx;conv=>whnf)
  ·exact⟨ac (by rw[he,ar hx]),rfl⟩
  rw[aq (by omega)] at he
  rw[aq rfl] at he
  by_cases h4:p.topology=4
  ·repeat' ((first|refine nI ?_|refine aI ?_|refine tI ?_|refine fI ?_|fail);conv=>whnf)
   refine dC (ay _ _ _) (fun _=>?_) (fun _=>?_)<;>(conv=>whnf)
   ·rename_i h
    repeat' ((first|refine nI ?_|refine aI ?_|refine tI ?_|refine fI ?_|fail);conv=>whnf)
    exact⟨ac (by rw[he,sE,if_neg (by omega)];rfl),rfl⟩
   ·rename_i h
    exact⟨ac (by rw[he,sE,if_pos (by omega)];rfl),rfl⟩
  ·repeat' ((first|refine nI ?_|refine aI ?_|refine tI ?_|refine fI ?_|fail);conv=>whnf)
   refine dC (ay _ _ _) (fun _=>?_) (fun _=>?_)<;>(conv=>whnf)
   ·rename_i h
    repeat' ((first|refine nI ?_|refine aI ?_|refine tI ?_|refine fI ?_|fail);conv=>whnf)
    exact⟨ac (by rw[he,sE,if_neg (by omega)];rfl),rfl⟩
   ·rename_i h
    exact⟨ac (by rw[he,sE,if_pos (by omega)];rfl),rfl⟩
end Go.Proofs.YtekmminpfhacpaaGreatDoor
