import Derived.Test.YtekmminpfhacpaaGreatDoorS2
import Derived.Test.YtekmminpfhacpaaGreatDoorFhH
import Derived.Test.YtekmminpfhacpaaGreatDoorRT
import Derived.Test.YtekmminpfhacpaaGreatDoorQ4
set_option linter.unusedVariables false
set_option linter.unusedSimpArgs false
namespace Go.Proofs.YtekmminpfhacpaaGreatDoor
set_option maxRecDepth 100000
set_option maxHeartbeats 16000000
theorem I8 {p:ap} {q:aJ} {sch x:List Int} {number:Int} (h:rI p q sch x number=0):dL p q=0/\dM (aA p.rules).length sch/\pB (jn p q sch number) x/\¬8<x.getD 0 0/\(xF p q sch x).2.2=0:=by
 unfold rI at h
 by_cases h1:dL p q≠0
 ·rw[if_pos h1] at h;exact absurd h h1
 rw[if_neg h1] at h
 by_cases h2:¬dM (aA p.rules).length sch\/number< -1\/(w6 p q:Int)<=number
 ·rw[if_pos h2] at h;exact absurd h (by decide)
 rw[if_neg h2] at h
 by_cases h3:¬pB (jn p q sch number) x
 ·rw[if_pos h3] at h;exact absurd h (by decide)
 rw[if_neg h3] at h
 by_cases h4:8<x.getD 0 0
 ·rw[if_pos h4] at h;exact absurd h (by decide)
 rw[if_neg h4] at h
 exact⟨Classical.not_not.1 h1,Classical.not_not.1 fun y=>h2 (.inl y),Classical.not_not.1 h3,h4,h⟩
theorem Pb {p:ap} {q:aJ} {s:aN} {r:Rn} {sch seg:List Int} (hk:nU p q s r sch seg):PO p s r= .tup [.sl cf cy (kT p r.start r.steps), .int .i64 0]:=by
 unfold PO
 rw[if_neg (fun y=>y (ua hk.rdy)),if_pos hk.rdy.vc]
 exact MN hk.run
theorem PH {p:ap} {q:aJ} {sch x:List Int} {number:Int} (h1:dL p q=0) (h2:dM (aA p.rules).length sch) (h3:-1<=number/\number<w6 p q) (h4:pB (jn p q sch number) x):rI p q sch x number=if 8<x.getD 0 0 then 4 else 0:=by
 unfold rI
 rw[if_neg (fun y=>y h1),if_neg (fun hh=>by
  rcases hh with hh|hh|hh
  ·exact hh h2
  ·omega
  ·omega),if_neg (fun y=>y h4)]
 by_cases h8:8<x.getD 0 0
 ·rw[if_pos h8,if_pos h8]
 ·rw[if_neg h8,if_neg h8]
  exact LP (Dz h1 h2 h4 h8)
theorem PI {p:ap} {q:aJ} {sch x:List Int} {number:Int} (he:rI p q sch x number=0):∃(c:aD) (ys:List bX) (seg:List Int),
  zJ p q sch x number= .tup [.agg (gr ⟨x.getD 0 0,x.getD 1 0,x.getD 2 0⟩), .agg (cy c++[.sl cX iA ys]), .int .i64 0]/\nU p q ⟨x.getD 0 0,x.getD 1 0,x.getD 2 0⟩ ⟨c,ys⟩ sch seg:=by
 obtain⟨k1,k2,k4,k5,k6⟩:=I8 he
 have hS:=Dz k1 k2 k4 k5
 have hk:=O9 hS k6
 have e:nW p q sch x=⟨x.getD 0 0,x.getD 1 0,x.getD 2 0⟩:=hS.sol.siz
 have hA:=IC he
 have e2:fR (j0 (ao p q sch) x)=⟨x.getD 0 0,x.getD 1 0,x.getD 2 0⟩:=e
 rw[e2] at hA
 rw[e] at hk
 exact⟨_,_,_,hA,hk⟩
theorem Ak (p:ap) (q:aJ) (hp:qz p) (hq:Bj q) (sch:List Int) (hl:sch.length<=140737488355328) (number nodes:Int):
  ab Tryz.prog 7 [.agg (MG p q), .agg (MT sch number), .int .i64 nodes] (fun u=>u= .bool true):=by
 have hs:=QI
 have hB:=HU p q hp hq sch hl number
 have hfw:=RN nodes
 generalize (if 40<nodes then(40:Int) else nodes)=few at hfw
 refine ab.intro ae ag Tryz.func7 rfl (by decide) ?_;(conv=>whnf)
 refine ar rfl ?_
 conv=>whnf
 refine ar rfl ?_
 conv=>whnf
 apply jq
 case k=>
  intro o1 o2 o3 o4 o5 o6
  refine MH [0,1,2,3] (by decide+kernel) ?_
  conv=>whnf
  repeat' first
   |exact True.intro
   |(refine And.intro ?_ ?_<;>conv=>whnf)
   |with_reducible assumption
   |fail
 all_goals try first
  |exact True.intro
  |exact True
 all_goals
  refine dI ?_
  conv=>whnf
  rw[Ll] at hB
  by_cases hchk:dL p q≠0
  ·rw[if_pos hchk] at hB
   (refine oP (hB) ?_;conv=>whnf)
   refine dQ hchk ?_
   conv=>whnf
   (refine oP (hs) ?_;conv=>whnf)
   exact⟨rfl,rfl⟩
  rw[if_neg hchk] at hB
  by_cases hno:¬dM (aA p.rules).length sch\/number< -1\/(w6 p q:Int)<=number
  ·rw[if_pos hno] at hB
   (refine oP (hB) ?_;conv=>whnf)
   refine dQ (by decide) ?_
   conv=>whnf
   (refine oP (hs) ?_;conv=>whnf)
   exact⟨rfl,rfl⟩
  rw[if_neg hno] at hB
  have hchk:=Classical.not_not.1 hchk
  have hsch:dM (aA p.rules).length sch:=Classical.not_not.1 fun y=>hno (.inl y)
  have hnum:-1<=number/\number<w6 p q:=⟨by omega,by omega⟩
  have hpr:=eM hchk
  have hvl:=kw hpr hsch
  have h3:3<=(ao p q sch).length:=by unfold ao;simp only[List.length_append,List.length_cons];omega
  have hse:=xg hpr hsch number
  have hSv:=PF (jn p q sch number) few hse (by show 0<((ao p q sch).length:Int);omega)
  have hkd:=JP (jn p q sch number) few
  have hk1:=PE (nodes:=few) hse
  have hSa:=fun(x:List Int) (hx:x.length<=140737488355328)=>BT (jn p q sch number) x (qN hse) hx
  unfold ro at hSv hSa
  have hSv:ab Tryz.prog 15 [.agg [.int .i64 (ao p q sch).length, .sl av aE (eg p q sch number)], .int .i64 few] (fun u=>u=Cb (jn p q sch number) few):=hSv
  have hSa:∀(x:List Int),x.length<=140737488355328->ab Tryz.prog 33 [.agg [.int .i64 (ao p q sch).length, .sl av aE (eg p q sch number)], .sl 0 ak x] (fun u=>u= .bool (decide (pB (jn p q sch number) x))):=hSa
  unfold Cb at hSv
  generalize Ra (jn p q sch number) few=x at hSv hk1
  generalize Au (jn p q sch number) few=kd at hSv hk1 hkd
  generalize SP (jn p q sch number) few=rf at hSv
  (refine oP (hB) ?_;conv=>whnf)
  refine j9 (by decide) ?_
  conv=>whnf
  refine dI ?_
  conv=>whnf
  (refine oC (hfw) ?_;conv=>whnf)
  rcases hkd with rfl|rfl|rfl
  ·rw[if_neg (by decide),if_neg (by decide)] at hSv
   (refine oC (hSv) ?_;conv=>whnf)
   refine j9 (by decide) ?_
   conv=>whnf
   refine dQ (by decide) ?_
   conv=>whnf
   refine dQ (by decide) ?_
   conv=>whnf
   (refine oP (hs) ?_;conv=>whnf)
   exact⟨rfl,rfl⟩
  rotate_left
  ·rw[if_neg (by decide),if_pos rfl] at hSv
   (refine oC (hSv) ?_;conv=>whnf)
   refine j9 (by decide) ?_
   conv=>whnf
   refine dQ (by decide) ?_
   conv=>whnf
   refine dQ (by decide) ?_
   conv=>whnf
   (refine oP (hs) ?_;conv=>whnf)
   exact⟨rfl,rfl⟩
  rw[if_pos rfl] at hSv
  have hsat:=hk1 rfl
  have hlx:=sa hsat
  have hSx:=hSa x (by omega)
  rw[decide_eq_true hsat] at hSx
  have hC:=zL p q hp hq sch hl number x (by omega)
  have he:=PH hchk hsch hnum hsat
  (refine oC (hSv) ?_;conv=>whnf)
  refine j9 (by decide) ?_
  conv=>whnf
  refine j9 (by decide) ?_
  conv=>whnf
  (refine oP (hSx) ?_;conv=>whnf)
  by_cases h8:8<x.getD 0 0
  ·rw[if_pos h8] at he
   rw[IB he (by decide)] at hC
   (refine oP (hC) ?_;conv=>whnf)
   refine nI ?_
   conv=>whnf
   refine dQ h8 ?_
   conv=>whnf
   refine dQ rfl ?_
   conv=>whnf
   (refine oP (hs) ?_;conv=>whnf)
   exact⟨rfl,rfl⟩
  rw[if_neg h8] at he
  obtain⟨c,ys,seg,eA,hk⟩:=PI he
  rw[eA] at hC
  have hw:=eY hk.rdy.wide
  have hlen:=hk.len
  dsimp only at hw hlen
  have hR:=LF p ⟨x.getD 0 0,x.getD 1 0,x.getD 2 0⟩ ⟨c,ys⟩ hp hk.rdy.val hk.thr (by unfold MJ;dsimp only;omega) (by dsimp only;omega)
  rw[Pb hk] at hR
  unfold MM at hR
  dsimp only at hR
  (refine oP (hC) ?_;conv=>whnf)
  refine nI ?_
  conv=>whnf
  refine j9 h8 ?_
  conv=>whnf
  (refine oP (hR) ?_;conv=>whnf)
  refine dQ rfl ?_
  conv=>whnf
  refine dQ rfl ?_
  conv=>whnf
  (refine oP (hs) ?_;conv=>whnf)
  exact⟨rfl,rfl⟩
end Go.Proofs.YtekmminpfhacpaaGreatDoor
