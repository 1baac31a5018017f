import Derived.Test.YtekmminpfhacpaaGreatDoorM2
set_option linter.unusedVariables false
set_option linter.unusedSimpArgs false
namespace Go.Proofs.YtekmminpfhacpaaGreatDoor
set_option maxRecDepth 100000
set_option maxHeartbeats 8000000
theorem be {a:Int} {l:List Int} (h:a=0):cb (a::l)=cb l:=by rw[cb,if_neg (by omega)]
theorem qf {a:Int} {l:List Int} (h:a=5):cb (a::l)=5:=by rw[cb,if_pos (by omega),h]
theorem bV {a:Int} {l:List Int} (h:a≠0):cb (a::l)=a:=by rw[cb,if_pos h]
theorem jU {i n:Int} (h:0<=i/\i<=n-1):ci i n=0:=by rw[ci,if_neg (by omega)]
theorem lw {i n:Int} (h:¬(0<=i/\i<=n-1)):ci i n=5:=by rw[ci,if_pos (by omega)]
theorem jy (n:Int):bw [] n=0:=by
 have h1:iy [] n:=fun j hj=>by simp at hj
 have h2:uW []:=fun j hj=>by simp at hj
 rw[bw,if_pos h1,if_pos h2]
theorem eK {α:Type} {l:List α} (h:¬0<l.length):l=[]:=List.eq_nil_of_length_eq_zero (by omega)
def tn (p:an) (r:bC):List Int:=
 [ci r.src p.states.length,ci r.dst p.states.length,(if r.kind=2\/r.kind=5 then ci r.pfrom p.states.length else 0),(if r.kind=2\/r.kind=5 then ci r.pto p.states.length else 0),(if r.kind=3 then gQ r.response p.states.length else 0),
  aZ p.messages.length r.guards,bw r.some_ p.states.length,bw r.forall_ p.states.length,fF p.values.length r.read,fF p.values.length r.write,bw r.send p.messages.length,
  bw r.left p.states.length,bw r.right p.states.length,bw r.parent p.states.length,(if r.kind=4 then zT r.at_ p.topology else 0),(if r.kind=5 then tm r.direction p.topology else 0)]
theorem zU (l m:List Int):cb (l++m)=if cb l≠0 then cb l else cb m:=by
 induction l with
 |nil=>simp[cb]
 |cons a l ih=>
  simp only[List.cons_append,cb]
  by_cases h:a=0
  ·simp[h,ih]
  ·simp[h]
theorem jz (a b:Int) (l:List Int):cb [a,b,cb l]=cb (a::b::l):=by
 simp only[cb]
 by_cases h:cb l=0<;>simp[h]
theorem CF {p:an} {r:bC} (hf:dV r.kind p.topology) (hs:¬gu r p.topology):cb (tn p r)=cb [ci r.src p.states.length,ci r.dst p.states.length,cu p r]:=by
 unfold dV at hf
 unfold gu at hs
 have hg0:aZ p.messages.length []=0:=by simp[aZ,cb]
 have hv0:fF p.values.length (-1)=0:=by rw[fF,if_neg (by omega)]
 have hk:r.kind=1\/r.kind=2\/r.kind=3\/r.kind=4\/r.kind=5:=by omega
 rcases hk with k|k|k|k|k
 ·have a1:r.left=[]:=eK (by omega)
  have a2:r.right=[]:=eK (by omega)
  have a3:r.parent=[]:=eK (by omega)
  rw[cu,if_pos k,jz,tn]
  simp only[k,a1,a2,a3,jy]
  simp[cb]
 ·have a1:r.left=[]:=eK (by omega)
  have a2:r.right=[]:=eK (by omega)
  have a3:r.parent=[]:=eK (by omega)
  have a4:r.guards=[]:=eK (by omega)
  have a5:r.some_=[]:=eK (by omega)
  have a6:r.forall_=[]:=eK (by omega)
  have a7:r.send=[]:=eK (by omega)
  rw[cu,if_neg (by omega),if_pos k,jz,tn]
  simp only[k,a1,a2,a3,a4,a5,a6,a7,jy,hg0]
  simp[cb]
 ·have a1:r.left=[]:=eK (by omega)
  have a2:r.right=[]:=eK (by omega)
  have a3:r.parent=[]:=eK (by omega)
  have a4:r.guards=[]:=eK (by omega)
  have a5:r.some_=[]:=eK (by omega)
  have a6:r.forall_=[]:=eK (by omega)
  have a7:r.send=[]:=eK (by omega)
  rw[cu,if_neg (by omega),if_neg (by omega),if_pos k,jz,tn]
  simp only[k,a1,a2,a3,a4,a5,a6,a7,jy,hg0]
  simp[cb]
 ·have a4:r.guards=[]:=eK (by omega)
  have a5:r.some_=[]:=eK (by omega)
  have a6:r.forall_=[]:=eK (by omega)
  have a7:r.send=[]:=eK (by omega)
  have a8:r.read=-1:=by omega
  have a9:r.write=-1:=by omega
  rw[cu,if_neg (by omega),if_neg (by omega),if_neg (by omega),if_pos k,jz,tn]
  simp only[k,a4,a5,a6,a7,a8,a9,jy,hg0,hv0]
  simp[cb]
 ·have a1:r.left=[]:=eK (by omega)
  have a2:r.right=[]:=eK (by omega)
  have a3:r.parent=[]:=eK (by omega)
  have a4:r.guards=[]:=eK (by omega)
  have a5:r.some_=[]:=eK (by omega)
  have a6:r.forall_=[]:=eK (by omega)
  have a7:r.send=[]:=eK (by omega)
  have a8:r.read=-1:=by omega
  have a9:r.write=-1:=by omega
  rw[cu,if_neg (by omega),if_neg (by omega),if_neg (by omega),if_neg (by omega),jz,tn]
  simp only[k,a1,a2,a3,a4,a5,a6,a7,a8,a9,jy,hg0,hv0]
  simp[cb]
theorem qg {rs:List bC} {i:Nat} {r:bC} (hi:i<=rs.length):fG rs i r↔∃j,j<i/\(rs.getD j aq).name=r.name:=by
 have e:∀j,j<i->(rs.take i).getD j aq=rs.getD j aq:=fun j hj=>by
  rw[gD,List.getElem?_take,if_pos hj,<-gD]
 have hl:(rs.take i).length=i:=by simp;omega
 unfold fG
 rw[hl]
 constructor
 ·rintro⟨j,h1,h2⟩;exact⟨j,h1,by rw[<-e j h1];exact h2⟩
 ·rintro⟨j,h1,h2⟩;exact⟨j,h1,by rw[e j h1];exact h2⟩
theorem GO {m:Int} {g:dB} (h1:0<=g.message/\g.message<=m-1) (h2:1<=g.coef/\g.coef<=100) (h3:eD g.bound):gE m g=0:=by
 rw[gE,be (jU h1),be (by rw[im,if_neg (by omega)]),be (by rw[j9,if_pos h3])];rfl
theorem qh (m v:Int) (hm:0<=m):(v=-1/\fF m v=0)\/(v≠-1/\(0<=v/\v<=m-1)/\fF m v=0)\/(v≠-1/\¬(0<=v/\v<=m-1)/\fF m v=5):=by
 unfold fF
 by_cases h1:v=-1
 ·left;exact⟨h1,if_neg (by omega)⟩
 ·by_cases h2:0<=v/\v<=m-1
  ·right;left;exact⟨h1,h2,if_neg (by omega)⟩
  ·right;right;exact⟨h1,h2,if_pos (by omega)⟩
theorem GP (p:an) (i:Nat) (hp:g7 p) (hi:i<p.rules.length):ab Tryz.prog 208 [.agg (aB p), .int .i64 (i:Int)] (fun u=>u= .int .i64 (b9 p i (p.rules.getD i aq))):=by
 have hle:=gZ hp
 have hbr:=te hp hi
 refine ab.intro ac ae Tryz.func208 rfl (by decide) ?_;(conv=>whnf)
 refine ak rfl ?_
 conv=>whnf
 refine dP ?_
 conv=>whnf
 refine nI ?_
 rw[tN]
 generalize p.rules.getD i aq=r at hbr
 have hrl:=uU hbr
 conv=>whnf
 refine dC (iU r.name (by omega)) (fun _=>?_) (fun _=>?_)<;>(conv=>whnf)
 case refine_2=>rename_i hv;exact⟨ah (by rw[b9,if_pos (.inl hv)]),rfl⟩
 rename_i hv
 refine aF.loopF ac ae (fun k:Nat=>k<=i/\∀j,j<k->(p.rules.getD j aq).name≠r.name) (fun k=>[(7, .int .i64 (k:Int))]) (fun _=>[(5, .box 180 (ee r))]) (fun k=>i-k) 0 ⟨by omega,fun j hj=>by omega⟩ ?_;conv=>whnf
 refine⟨sI,?_⟩
 rintro k ⟨hk,ha⟩
 conv=>whnf
 refine ag ?_ ?_<;>(intro h1;conv=>whnf)
 ·refine dI ?_
  conv=>whnf
  refine nI ?_
  rw[tN]
  conv=>whnf
  refine ag ?_ ?_<;>(intro h2;conv=>whnf)
  ·exact⟨ah (by rw[b9,if_pos (.inr ((qg (by omega)).2 ⟨k,by omega,h2⟩))]),rfl⟩
  ·repeat' ((first|refine nI ?_|refine aI ?_|refine uI ?_|refine vI ?_|refine dI ?_|refine dR ?_|refine dP ?_|refine ak rfl ?_|refine pI _ rfl ?_|refine ap _ rfl ?_|refine tI ?_|refine fI ?_|refine ag (fun _=>?_) (fun _=>?_))<;>conv=>whnf)
   refine⟨k+1,sI,⟨by omega,fun j hj=>?_⟩,by dsimp only;omega⟩
   by_cases e:j=k
   ·subst e;exact h2
   ·exact ha j (by omega)
 have hnt:¬fG p.rules i r:=fun h=>by
  obtain⟨j,h2,h3⟩:=(qg (by omega)).1 h
  exact ha j (by omega) h3
 have e1:∀x,(if¬bU r.name\/fG p.rules i r then(2:Int) else x)=x:=fun x=>if_neg (by rintro(h|h);exact h hv;exact hnt h)
 by_cases hf:dV r.kind p.topology
 case neg=>
  have hE:b9 p i r=6:=by rw[b9,e1,if_pos (.inl hf)]
  unfold dV at hf
  refine dC (aL _ _ _) (fun _=>?_) (fun _=>?_)<;>(conv=>whnf)
  ·repeat' ((first|refine nI ?_|refine aI ?_|refine uI ?_|refine vI ?_|refine dI ?_|refine dR ?_|refine dP ?_|refine ak rfl ?_|refine pI _ rfl ?_|refine ap _ rfl ?_|refine tI ?_|refine fI ?_|refine ag (fun _=>?_) (fun _=>?_))<;>conv=>whnf)
   all_goals exact⟨ah hE.symm,rfl⟩
  ·exact⟨ah hE.symm,rfl⟩
 by_cases hs:gu r p.topology
 case pos=>
  have hE:b9 p i r=6:=by rw[b9,e1,if_pos (.inr hs)]
  have ff:=hf
  unfold dV at ff
  refine dC (aL _ _ _) (fun _=>?_) (fun _=>?_)<;>(conv=>whnf)
  ·repeat' ((first|refine nI ?_|refine aI ?_|refine uI ?_|refine vI ?_|refine dI ?_|refine dR ?_|refine dP ?_|refine ak rfl ?_|refine pI _ rfl ?_|refine ap _ rfl ?_|refine tI ?_|refine fI ?_|refine ag (fun _=>?_) (fun _=>?_))<;>conv=>whnf)
   all_goals
    refine dC (wr p r hf) (fun _=>?_) (fun _=>?_)<;>(conv=>whnf)
    ·exact⟨ah hE.symm,rfl⟩
    ·rename_i h;exact absurd hs h
  ·exact⟨ah hE.symm,rfl⟩
 have he:b9 p i r=cb (tn p r):=by rw[b9,e1,if_neg (by rintro(h|h);exact h hf;exact hs h),CF hf hs]
 have ff:=hf
 unfold dV at ff
 have ss:=hs
 unfold gu at ss
 unfold tn at he
 have hk:r.kind=1\/r.kind=2\/r.kind=3\/r.kind=4\/r.kind=5:=by omega
 rcases hk with k|k|k|k|k
 all_goals
  refine dC (aL _ _ _) (fun _=>?_) (fun _=>?_)<;>(conv=>whnf)
  case refine_2=>rename_i h;omega
  repeat' ((first|refine nI ?_|refine aI ?_|refine tI ?_|refine fI ?_|fail);conv=>whnf)
  refine dC (wr p r hf) (fun _=>?_) (fun _=>?_)<;>(conv=>whnf)
  ·rename_i h;exact absurd h hs
  repeat' ((first|refine nI ?_|refine aI ?_|refine tI ?_|refine fI ?_|fail);conv=>whnf)
  iterate 2
   refine dC (aL _ _ _) (fun _=>?_) (fun _=>?_)<;>(conv=>whnf)
   case refine_2=>rename_i h;exact⟨ah (by rw[he,qf (lw h)]),rfl⟩
   rename_i h
   rw[be (jU h)] at he
   clear h
   repeat' ((first|refine nI ?_|refine aI ?_|refine tI ?_|refine fI ?_|fail);conv=>whnf)
 rw[if_neg (by omega),if_neg (by omega),if_neg (by omega),if_neg (by omega),if_neg (by omega),be rfl,be rfl,be rfl] at he
 rotate_left
 rw[if_pos (.inl k),if_pos (.inl k),if_neg (by omega),if_neg (by omega),if_neg (by omega)] at he
 iterate 2
  refine dC (aL _ _ _) (fun _=>?_) (fun _=>?_)<;>(conv=>whnf)
  case refine_2=>rename_i h;exact⟨ah (by rw[he,qf (lw h)]),rfl⟩
  rename_i h
  rw[be (jU h)] at he
  clear h
  repeat' ((first|refine nI ?_|refine aI ?_|refine tI ?_|refine fI ?_|fail);conv=>whnf)
 rw[be rfl] at he
 rotate_left
 rw[if_neg (by omega),if_neg (by omega),if_pos k,if_neg (by omega),if_neg (by omega),be rfl,be rfl] at he
 refine ag ?_ ?_<;>(intro hx;conv=>whnf)
 ·exact⟨ah (by rw[he,gQ,if_pos hx,bV (by decide)]),rfl⟩
 refine aF.loopF ac ae (fun j:Nat=>j<=r.response.length/\∀q,q<j->0<=r.response.getD q 0/\r.response.getD q 0<p.states.length) (fun j=>[(9, .int .i64 (j:Int))]) (fun _=>[(5, .box 180 (ee r))]) (fun j=>r.response.length-j) 0 ⟨by omega,fun q hq=>by omega⟩ ?_;conv=>whnf
 refine⟨sI,?_⟩
 rintro j ⟨hj,hja⟩
 conv=>whnf
 refine ag ?_ ?_<;>(intro h1;conv=>whnf)
 ·refine nI ?_
  rw[tN]
  conv=>whnf
  repeat' ((first|refine nI ?_|refine aI ?_|refine tI ?_|refine fI ?_|fail);conv=>whnf)
  refine dC (aL _ _ _) (fun _=>?_) (fun _=>?_)<;>(conv=>whnf)
  ·rename_i h
   repeat' ((first|refine nI ?_|refine aI ?_|refine tI ?_|refine fI ?_|fail);conv=>whnf)
   refine⟨j+1,sI,⟨by omega,fun q hq=>?_⟩,by dsimp only;omega⟩
   by_cases e:q=j
   ·subst e;omega
   ·exact hja q (by omega)
  ·rename_i h
   refine⟨ah ?_,rfl⟩
   rw[he,gQ,if_neg hx,if_neg (fun hh:iy r.response p.states.length=>by have:=hh j (by omega);omega),bV (by decide)]
 rw[gQ,if_neg hx,if_pos (show iy r.response p.states.length from fun q hq=>hja q (by omega)),be rfl] at he
 repeat' ((first|refine nI ?_|refine aI ?_|refine tI ?_|refine fI ?_|fail);conv=>whnf)
 rotate_left
 rw[if_neg (by omega),if_neg (by omega),if_neg (by omega),if_pos k,if_neg (by omega),be rfl,be rfl,be rfl] at he
 rotate_left
 rw[if_pos (.inr k),if_pos (.inr k),if_neg (by omega),if_neg (by omega),if_pos k] at he
 iterate 2
  refine dC (aL _ _ _) (fun _=>?_) (fun _=>?_)<;>(conv=>whnf)
  case refine_2=>rename_i h;exact⟨ah (by rw[he,qf (lw h)]),rfl⟩
  rename_i h
  rw[be (jU h)] at he
  clear h
  repeat' ((first|refine nI ?_|refine aI ?_|refine tI ?_|refine fI ?_|fail);conv=>whnf)
 rw[be rfl] at he
 rotate_left
 all_goals
  refine aF.loopF ac ae (fun j:Nat=>j<=r.guards.length/\cb (r.guards.map (gE p.messages.length))=cb ((r.guards.drop j).map (gE p.messages.length))) (fun j=>[(10, .int .i64 (j:Int))]) (fun _=>[(5, .box 180 (ee r))]) (fun j=>r.guards.length-j) 0 ⟨by omega,rfl⟩ ?_;conv=>whnf
  refine⟨sI,?_⟩
  rintro j ⟨hj,hjo⟩
  conv=>whnf
  refine ag ?_ ?_<;>(intro h1;conv=>whnf)
  ·refine nI ?_
   rw[tN]
   rw[di _ aA (by omega)] at hjo
   generalize r.guards.getD j aA=g at hjo
   conv=>whnf
   repeat' ((first|refine nI ?_|refine aI ?_|refine tI ?_|refine fI ?_|fail);conv=>whnf)
   have bad:∀x:Int,x≠0->gE p.messages.length g=x->b9 p i r=x:=fun x hx hg=>by
    rw[hg,if_pos hx] at hjo
    have hge:aZ p.messages.length r.guards=x:=by rw[aZ,hjo,if_pos hx]
    rw[he,bV (by rw[hge];exact hx),hge]
   refine dC (aL _ _ _) (fun _=>?_) (fun _=>?_)<;>(conv=>whnf)
   case refine_2=>rename_i h;exact⟨ah (bad 5 (by decide) (by rw[gE,qf (lw h)])).symm,rfl⟩
   rename_i g1
   refine dC (aL _ _ _) (fun _=>?_) (fun _=>?_)<;>(conv=>whnf)
   case refine_2=>rename_i h;exact⟨ah (bad 1 (by decide) (by rw[gE,be (jU g1),im,if_pos (by omega),bV (by decide)])).symm,rfl⟩
   rename_i g2
   refine dC (ET g.bound) (fun _=>?_) (fun _=>?_)<;>(conv=>whnf)
   case refine_2=>rename_i h;exact⟨ah (bad 4 (by decide) (by rw[gE,be (jU g1),im,if_neg (by omega),be rfl,j9,if_neg h,bV (by decide)])).symm,rfl⟩
   rename_i g3
   rw[if_neg (by rw[GO g1 g2 g3];simp)] at hjo
   repeat' ((first|refine nI ?_|refine aI ?_|refine tI ?_|refine fI ?_|fail);conv=>whnf)
   exact⟨j+1,sI,⟨by omega,hjo⟩,by dsimp only;omega⟩
  obtain rfl:j=r.guards.length:=by omega
  rw[List.drop_length] at hjo
  have hjo:cb (r.guards.map (gE p.messages.length))=0:=hjo
  refine ag ?_ ?_<;>(intro hx;conv=>whnf)
  ·exact⟨ah (by rw[he,aZ,hjo,if_neg (by simp),if_pos (by omega),bV (by decide)]),rfl⟩
  rw[aZ,hjo,if_neg (by simp),if_neg (by omega),be rfl] at he
  repeat' ((first|refine nI ?_|refine aI ?_|refine tI ?_|refine fI ?_|fail);conv=>whnf)
  (refine oP (oq r.some_ _ (by omega) (by omega)) ?_;conv=>whnf)
  refine ag ?_ ?_<;>(intro hx;conv=>whnf)
  ·exact⟨ah (by rw[he,bV hx]),rfl⟩
  rw[be (by omega)] at he
  repeat' ((first|refine nI ?_|refine aI ?_|refine tI ?_|refine fI ?_|fail);conv=>whnf)
  (refine oP (oq r.forall_ _ (by omega) (by omega)) ?_;conv=>whnf)
  refine ag ?_ ?_<;>(intro hx;conv=>whnf)
  ·exact⟨ah (by rw[he,bV hx]),rfl⟩
  rw[be (by omega)] at he
 all_goals rcases qh p.values.length r.read (by omega) with ⟨v1,v2⟩|⟨v1,v2,v3⟩|⟨v1,v2,v3⟩
 all_goals try(exfalso;omega)
 all_goals
  first
  |rw[be v2] at he
   repeat' ((first|refine nI ?_|refine aI ?_|refine tI ?_|refine fI ?_|fail);conv=>whnf)
  |rw[be v3] at he
   repeat' ((first|refine nI ?_|refine aI ?_|refine tI ?_|refine fI ?_|fail);conv=>whnf)
   refine dC (aL _ _ _) (fun _=>?_) (fun _=>?_)<;>(conv=>whnf)
   case refine_2=>rename_i h;exact absurd v2 h
   rename_i h
   clear h
   repeat' ((first|refine nI ?_|refine aI ?_|refine tI ?_|refine fI ?_|fail);conv=>whnf)
  |skip
   repeat' ((first|refine nI ?_|refine aI ?_|refine tI ?_|refine fI ?_|fail);conv=>whnf)
   refine dC (aL _ _ _) (fun _=>?_) (fun _=>?_)<;>(conv=>whnf)
   ·rename_i h;exact absurd h v2
   ·exact⟨ah (by rw[he,qf v3]),rfl⟩
 all_goals rcases qh p.values.length r.write (by omega) with ⟨w1,w2⟩|⟨w1,w2,w3⟩|⟨w1,w2,w3⟩
 all_goals try(exfalso;omega)
 all_goals
  first
  |rw[be w2] at he
   repeat' ((first|refine nI ?_|refine aI ?_|refine tI ?_|refine fI ?_|fail);conv=>whnf)
  |rw[be w3] at he
   repeat' ((first|refine nI ?_|refine aI ?_|refine tI ?_|refine fI ?_|fail);conv=>whnf)
   refine dC (aL _ _ _) (fun _=>?_) (fun _=>?_)<;>(conv=>whnf)
   case refine_2=>rename_i h;exact absurd w2 h
   rename_i h
   clear h
   repeat' ((first|refine nI ?_|refine aI ?_|refine tI ?_|refine fI ?_|fail);conv=>whnf)
  |skip
   repeat' ((first|refine nI ?_|refine aI ?_|refine tI ?_|refine fI ?_|fail);conv=>whnf)
   refine dC (aL _ _ _) (fun _=>?_) (fun _=>?_)<;>(conv=>whnf)
   ·rename_i h;exact absurd h w2
   ·exact⟨ah (by rw[he,qf w3]),rfl⟩
 all_goals
  (refine oP (oq r.send _ (by omega) (by omega)) ?_;conv=>whnf)
  refine ag ?_ ?_<;>(intro hx;conv=>whnf)
  ·exact⟨ah (by rw[he,bV hx]),rfl⟩
  rw[be (by omega)] at he
  repeat' ((first|refine nI ?_|refine aI ?_|refine tI ?_|refine fI ?_|fail);conv=>whnf)
  (refine oP (oq r.left _ (by omega) (by omega)) ?_;conv=>whnf)
  refine ag ?_ ?_<;>(intro hx;conv=>whnf)
  ·exact⟨ah (by rw[he,bV hx]),rfl⟩
  rw[be (by omega)] at he
  repeat' ((first|refine nI ?_|refine aI ?_|refine tI ?_|refine fI ?_|fail);conv=>whnf)
  (refine oP (oq r.right _ (by omega) (by omega)) ?_;conv=>whnf)
  refine ag ?_ ?_<;>(intro hx;conv=>whnf)
  ·exact⟨ah (by rw[he,bV hx]),rfl⟩
  rw[be (by omega)] at he
  repeat' ((first|refine nI ?_|refine aI ?_|refine tI ?_|refine fI ?_|fail);conv=>whnf)
  (refine oP (oq r.parent _ (by omega) (by omega)) ?_;conv=>whnf)
  refine ag ?_ ?_<;>(intro hx;conv=>whnf)
  ·exact⟨ah (by rw[he,bV hx]),rfl⟩
  rw[be (by omega)] at he
  first
  |refine eI k ?_
   conv=>whnf
   refine dC (aL _ _ _) (fun _=>?_) (fun _=>?_)<;>(conv=>whnf)
   ·rename_i h
    repeat' ((first|refine nI ?_|refine aI ?_|refine uI ?_|refine vI ?_|refine dI ?_|refine dR ?_|refine dP ?_|refine ak rfl ?_|refine pI _ rfl ?_|refine ap _ rfl ?_|refine tI ?_|refine fI ?_|refine ag (fun _=>?_) (fun _=>?_))<;>conv=>whnf)
    all_goals first
     |exact⟨ah (by rw[he,zT,if_pos (by omega)];rfl),rfl⟩
     |exact⟨ah (by rw[he,zT,if_neg (by omega)];rfl),rfl⟩
   ·rename_i h
    exact⟨ah (by rw[he,zT,if_pos (by omega)];rfl),rfl⟩
  |skip
   repeat' ((first|refine nI ?_|refine aI ?_|refine tI ?_|refine fI ?_|fail);conv=>whnf)
   exact⟨ah (by rw[he];rfl),rfl⟩
  |rw[be rfl] at he
   by_cases h4:p.topology=4
   all_goals
    repeat' ((first|refine nI ?_|refine aI ?_|refine tI ?_|refine fI ?_|fail);conv=>whnf)
    refine dC (aL _ _ _) (fun _=>?_) (fun _=>?_)<;>(conv=>whnf)
    ·rename_i h
     repeat' ((first|refine nI ?_|refine aI ?_|refine tI ?_|refine fI ?_|fail);conv=>whnf)
     exact⟨ah (by rw[he,tm,if_neg (by omega)];rfl),rfl⟩
    ·rename_i h
     exact⟨ah (by rw[he,tm,if_pos (by omega)];rfl),rfl⟩
end Go.Proofs.YtekmminpfhacpaaGreatDoor
