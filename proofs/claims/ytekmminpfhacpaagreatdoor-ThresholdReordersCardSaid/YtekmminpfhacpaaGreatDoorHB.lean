import Derived.Test.YtekmminpfhacpaaGreatDoorX1
import Derived.Test.YtekmminpfhacpaaGreatDoorW1
import Derived.Test.YtekmminpfhacpaaGreatDoorHA
import Derived.Test.YtekmminpfhacpaaGreatDoorX0
set_option linter.unusedVariables false
set_option linter.unusedSimpArgs false
namespace Go.Proofs.YtekmminpfhacpaaGreatDoor
set_option maxRecDepth 100000
set_option maxHeartbeats 16000000
theorem LN (n:Nat) (hn:n<=8):ab Tryz.prog 284 [.int .u64 1, .int .u64 (n:Int)] (fun u=>u= .tup [.int .u64 0, .int .u64 (n:Int)]):=by
 obtain rfl|rfl|rfl|rfl|rfl|rfl|rfl|rfl|rfl:n=0\/n=1\/n=2\/n=3\/n=4\/n=5\/n=6\/n=7\/n=8:=by omega
 all_goals
  refine ab.intro ae ag Tryz.func284 rfl (by decide) ?_;(conv=>whnf)
  repeat' ((first|refine fb trivial (by decide+kernel) ?_|refine fv trivial (by decide+kernel) ?_|refine bX (by decide+kernel) ?_|fail)<;>conv=>whnf)
  exact⟨rfl,rfl⟩
theorem Ok (n:Nat) (hn:n<=8):ab Tryz.prog 250 [.int .u64 1, .int .u64 (n:Int)] (fun u=>u= .tup [.int .u64 0, .int .u64 (n:Int)]):=by
 have h:=LN n hn
 refine ab.intro ae ag Tryz.func250 rfl (by decide) ?_;(conv=>whnf)
 repeat' ((first|refine nI ?_|refine aI ?_|refine fb trivial (by omega) ?_|refine fv trivial (by omega) ?_|refine dI ?_|refine dR ?_|refine dP ?_|refine al rfl ?_|refine pI _ rfl ?_|refine aw _ rfl ?_|refine tI ?_|refine fI ?_|refine ah (fun _=>?_) (fun _=>?_))<;>conv=>whnf)
 (refine oP (h) ?_;conv=>whnf)
 repeat' ((first|refine nI ?_|refine aI ?_|refine fb trivial (by omega) ?_|refine fv trivial (by omega) ?_|refine dI ?_|refine dR ?_|refine dP ?_|refine al rfl ?_|refine pI _ rfl ?_|refine aw _ rfl ?_|refine tI ?_|refine fI ?_|refine ah (fun _=>?_) (fun _=>?_))<;>conv=>whnf)
 exact⟨rfl,rfl⟩
theorem IY (x:Int) {n m k:Nat} (h1:m+k<=n) (h2:k<=m):sA (List.replicate m x++List.replicate (n-m) 0) m 0 k=List.replicate (m+k) x++List.replicate (n-(m+k)) 0:=by
 unfold sA
 rw[List.drop_zero,List.take_append_of_le_length (by simp),List.take_of_length_le (by simp),List.take_append_of_le_length (by simpa using h2),List.take_replicate,Nat.min_eq_left h2,List.drop_append,List.length_replicate,List.drop_of_length_le (by simp),List.nil_append,List.drop_replicate,<-List.append_assoc,List.replicate_append_replicate]
 congr 2
 omega
theorem IZ (x:Int) (n:Nat) (hn:n<=8):ab Tryz.prog 178 [.sl 0 ao [x], .int .i64 (n:Int)] (fun u=>u= .sl 0 ao (List.replicate n x)):=by
 have hM:=Ok n hn
 refine ab.intro ae ag Tryz.func178 rfl (by decide) ?_;(conv=>whnf)
 refine fI ?_
 conv=>whnf
 refine fb trivial lI ?_
 conv=>whnf
 refine fb trivial (by omega) ?_
 conv=>whnf
 (refine oP (hM) ?_;conv=>whnf)
 refine fI ?_
 conv=>whnf
 refine fI ?_
 conv=>whnf
 refine aI ?_
 conv=>whnf
 refine Dw 0 ao 0 rfl (by dsimp only;omega) ?_
 rw[tN]
 conv=>whnf
 by_cases h0:n=0
 ·subst h0
  refine NL rfl ?_
  conv=>whnf
  refine aQ.loopF ae ag (fun _:Unit=>True) (fun _=>[(8, .int .i64 0)]) (fun _=>[(30, .row 3 0 ao ([]:List Int))]) (fun _=>0) () trivial ?_;conv=>whnf
  refine⟨sI,?_⟩
  rintro _ _
  conv=>whnf
  refine fI ?_
  conv=>whnf
  exact⟨rfl,rfl⟩
 refine NK [x] (by simp only[List.length_cons,List.length_nil,List.length_replicate];omega) rfl ?_
 rw[show[x]++(List.replicate n (0:Int)).drop [x].length=List.replicate 1 x++List.replicate (n-1) 0 by rw[List.drop_replicate];rfl]
 conv=>whnf
 refine aQ.loopF ae ag (fun m:Nat=>1<=m/\m<=n) (fun m=>[(8, .int .i64 (m:Int))]) (fun m=>[(30, .row 3 0 ao (List.replicate m x++List.replicate (n-m) 0))]) (fun m=>n-m) 1 ⟨Nat.le_refl _,by omega⟩ ?_;conv=>whnf
 refine⟨sI,?_⟩
 rintro m ⟨hm1,hm2⟩
 conv=>whnf
 refine ah ?_ ?_<;>(intro h1;conv=>whnf)
 ·obtain⟨k,ek⟩:∃k,Nat.min ((m:Int)-0).toNat ((n:Int)-(m:Int)).toNat=k:=⟨_,rfl⟩
  have ek':min ((m:Int)-0).toNat ((n:Int)-(m:Int)).toNat=k:=ek
  have a1:k<=m:=by omega
  have a2:k<=n-m:=by omega
  have a3:0<k:=by omega
  have e1:sA (List.replicate m x++List.replicate (n-m) 0) (m:Int).toNat (Int.toNat 0) k=List.replicate (m+k) x++List.replicate (n-(m+k)) 0:=by rw[tN];exact IY x (by omega) a1
  refine lA [1,4] (by decide+kernel) ?_
  conv=>whnf
  repeat' first
   |exact True.intro
   |(refine And.intro ?_ ?_<;>conv=>whnf)
   |(refine nI ?_;conv=>whnf)
   |(refine DG ?_;conv=>whnf)
   |(rw[ek];refine aI ?_;conv=>whnf)
   |(rw[e1];exact⟨m+k,sI,⟨by omega,by omega⟩,by dsimp only;omega⟩)
   |fail
 ·obtain rfl:m=n:=by omega
  have e:List.replicate m x++List.replicate (m-m) 0=List.replicate m x:=by rw[Nat.sub_self,List.replicate_zero,List.append_nil]
  exact⟨congrArg (AV.sl 0 ao) e,rfl⟩
theorem Gh (p:an) (q:aG) (sch:List Int) (vars:List Vb) (x:List Int) (hl:x.length=vars.length) (hv:vars.length<=1000000) (kind:Int) (hk:kind=5\/kind=6) (seg idx:Int):
  am Tryz.prog 93 [.ptr 200 0, .sl 0 ao x, .int .i64 kind, .int .i64 seg, .int .i64 idx] (aj.ofL (cG p q sch vars []))
   (fun u M=>u= .int .i64 (gY vars x kind seg idx)/\M=aj.ofL (cG p q sch vars [])):=by
 have hs:∀b,kK vars kind vars.length (seg,idx)=some b->∃m:Nat,b=m/\m<vars.length/\gY vars x kind seg idx=x.getD m 0:=by
  intro b h
  obtain⟨m,rfl,hm,e⟩:=iA h
  exact⟨m,rfl,hm,by rw[rZ h,tN]⟩
 have hno:kK vars kind vars.length (seg,idx)=none->gY vars x kind seg idx=0:=r4
 generalize gY vars x kind seg idx=t at hs hno
 refine am.idn rfl (aa) ?_
 obtain rfl|rfl:=hk
 all_goals
  refine am.intro ae ag (cG p q sch vars []) Tryz.func93 rfl (by decide) ?_
  (conv=>whnf)
  refine bX (by decide) ?_
  (conv=>whnf)
  refine wk iH (seg,idx) rfl (fun b hb=>?_) (fun hb=>?_)<;>(conv=>whnf)
  ·obtain⟨m,rfl,hm,e⟩:=hs b hb
   subst e
   refine nI ?_
   rw[tN]
   (conv=>whnf)
   exact⟨rfl,(aa)⟩
  ·have e:=hno hb
   subst e
   exact⟨rfl,(aa)⟩
inductive mz (K:AV->aj->Prop):AV->aj->Prop
 |done {u:AV} {M:aj} (h:K u M):mz K u M
 |leak {u:AV} {M:aj} (ℓ:Nat) {t:TypeId} {α:Type} {d:α} {enc:α->List AV} {l:List α} (hl:M ℓ=some (.row t d enc l)) (h:mz K (DJ ℓ (.sl d enc l) u) (M.set ℓ (.gone d enc l))):mz K u M
theorem mz.ok {K:AV->aj->Prop} {u:AV} {M:aj} (h:mz K u M):∀{S F:ai} {ρ:aD} {w:World} {v:Value},aE S F ρ M w->RV S ρ v u->∃u' M' S',K u' M'/\S.le S'/\aE S' F ρ M' w/\RV S' ρ v u':=by
 induction h with
 |done h=>intro S F ρ w v hM hr;exact⟨_,_,S,h,ai.le_refl _,hM,hr⟩
 |leak ℓ hl _ ih=>
  intro S F ρ w v hM hr
  obtain⟨S1,b,hle,hb,hM1,_⟩:=hM.leak hl
  obtain⟨u',M',S',h1,h2,h3,h4⟩:=ih hM1 (DK hM1 (aj.set_eq _ _ _) (hr.mono hle (aD.le_refl _)))
  exact⟨u',M',S',h1,ai.le_trans hle h2,h3,h4⟩
theorem am.leakO {P:Program} {f:FuncId} {args:List AV} {M:aj} {K:AV->aj->Prop} (h:am P f args M (mz K)):am P f args M K:=by
 rw[cm] at h⊢
 refine⟨h.1,fun S F ρ vs w hM hv=>(h.2 S F ρ vs w hM hv).mono ?_⟩
 rintro e w' ⟨v,u,M',S',ρ',rfl,hR,hle,hρ,hM',hr,hw⟩
 obtain⟨u',M2,S2,k1,k2,k3,k4⟩:=hR.ok hM' hr
 exact⟨v,u',M2,S2,ρ',rfl,k1,ai.le_trans hle k2,hρ,k3,k4,hw⟩
noncomputable def I0 (vars:List Vb) (x:List Int) (ns:Nat):Nat->List Int
 |0=>[]
 |y+1=>I0 vars x ns y++nZ vars x (3+(y:Int)) ns
theorem AZ {vars:List Vb} {x:List Int} {kind:Int}:∀n:Nat,(∀z:Nat,z<n->gY vars x kind 0 z<=8)->(nZ vars x kind n).length<=8*n
 |0,_=>by simp[nZ]
 |n+1,h=>by
  have a:=AZ n fun z hz=>h z (by omega)
  have b:=h n (by omega)
  rw[Ge,List.length_append,List.length_replicate]
  omega
theorem LO (p:an) (q:aG) (sch:List Int) (vars:List Vb) (x:List Int) (hm:p.messages.length<=3) (hns:p.states.length<=6) (hl:x.length=vars.length) (h3:3<=vars.length) (hv:vars.length<=79) (h0:0<=x.getD 0 0/\x.getD 0 0<=1048576) (h2:0<=x.getD 2 0/\x.getD 2 0<=1048576)
  (h8:∀y:Nat,y<2->∀z:Nat,z<p.states.length->0<=gY vars x (3+(y:Int)) 0 z/\gY vars x (3+(y:Int)) 0 z<=8)
  (hw:∀y,y<=2->(I0 vars x p.states.length y).length<=48*y) (hxl:∀y:Nat,y<2->∀z,z<=p.states.length->(nZ vars x (3+(y:Int)) z).length<=8*z):
  am Tryz.prog 89 [.ptr 200 0, .sl 0 ao x] (aj.ofL (cG p q sch vars []))
   (fun u M=>u= .agg [.nilsl, .sl 0 ao (I0 vars x p.states.length 2), .int .i64 (x.getD 0 0-x.getD 2 0), .sl 0 ao (List.replicate p.messages.length 0), .sl 0 ao (List.replicate p.messages.length 0), .int .i64 0]/\M=aj.ofL (cG p q sch vars [])):=by
 refine am.idn rfl (aa) ?_
 refine am.leakO ?_
 refine am.intro ae ag (cG p q sch vars []) Tryz.func89 rfl (by decide) ?_
 conv=>whnf
 apply once (A:=aQ Tryz.prog _ (.loop _) ([.ptr 200 0, .sl 0 ao x, .top, .top, .ptr 4 0, .ptr 5 0]++List.replicate 33 .top++[.row 39 2 1, .int .i64 2, .int .i64 0]++List.replicate 42 .top) (aj.ofL ([(4, .box 61 jj),(5, .box 61 [.nilsl, .nilsl, .int .i64 (x.getD 0 0-x.getD 2 0), .row 27 p.messages.length 1, .row 37 p.messages.length 1, .int .i64 0]),(27, .row 3 0 ao (List.replicate p.messages.length 0)),(37, .row 3 0 ao (List.replicate p.messages.length 0)),(39, .row 3 0 ao [3,4])]++cG p q sch vars [])) _)
 case k=>
  intro hs0
  apply f7
  case k=>
   intro o1 o2 o3 o4 o5 o6
   refine rI [0,1,2,3,4,5,6,7,8,9,11,12,13,14,17,18,19,21,22,23,24,27] (by decide+kernel) ?_
   conv=>whnf
   repeat' first
    |exact True.intro
    |(refine And.intro ?_ ?_<;>conv=>whnf)
    |(refine bX (by clear o1 o2 o3 o4 o5 o6;omega) ?_;conv=>whnf)
    |(refine Mc trivial (by clear o1 o2 o3 o4 o5 o6;show -9223372036854775808<=x.getD 0 0-x.getD 2 0/\x.getD 0 0-x.getD 2 0<=9223372036854775807;omega) ?_;conv=>whnf)
    |(refine Dw 0 ao 0 rfl (by clear o1 o2 o3 o4 o5 o6;dsimp only;omega) ?_;conv=>whnf)
    |with_reducible exact o1
    |with_reducible exact o2
    |with_reducible exact o3
    |with_reducible exact o4
    |with_reducible exact o5
    |with_reducible exact o6
    |fail
  all_goals try first
   |exact True.intro
   |exact True
  all_goals exact aQ.sub (bn.by_ ([(4, .old 4),(5, .old 5),(27, .old 27),(37, .old 37),(39, .old 39)]++cH) _ 400 rfl (aa) (aa)) hs0
 case h=>
  refine aQ.loopF ae ag (fun y:Nat=>y<=2) (fun y=>[(41, .int .i64 (y:Int))]) (fun y=>[(4, .box 61 jj),(5, .box 61 [.nilsl, .row 1000 (I0 vars x p.states.length y).length 1, .int .i64 (x.getD 0 0-x.getD 2 0), .row 27 p.messages.length 1, .row 37 p.messages.length 1, .int .i64 0]),(27, .row 3 0 ao (List.replicate p.messages.length 0)),(37, .row 3 0 ao (List.replicate p.messages.length 0)),(39, .row 3 0 ao [3,4]),(1000, .row 3 0 ao (I0 vars x p.states.length y))]++cG p q sch vars []) (fun y=>2-y) 0 (Nat.zero_le _) ?_;conv=>whnf
  refine⟨bn.by_ ([(4, .old 4),(5, .old 5),(27, .old 27),(37, .old 37),(39, .old 39),(1000, .nil 1)]++cH) _ 400 rfl (aa) (aa),?_⟩
  rintro y hy
  have hwy:=hw y hy
  conv=>whnf
  refine ah ?_ ?_<;>(intro g1;conv=>whnf)
  rotate_left
  ·obtain rfl:y=2:=by omega
   refine mz.leak 1000 rfl ?_
   refine mz.leak 27 rfl ?_
   refine mz.leak 37 rfl ?_
   exact mz.done ⟨rfl,(aa)⟩
  have hy2:y<2:=by omega
  have edg:I0 vars x p.states.length (y+1)=I0 vars x p.states.length y++nZ vars x (3+(y:Int)) p.states.length:=rfl
  have h8y:=h8 y hy2
  have hu:=fun n=>Ge vars x (3+(y:Int)) n
  have hX:=hxl y hy2
  obtain⟨F,hF⟩:∃F:Nat->List Int,F=nZ vars x (3+(y:Int)):=⟨_,rfl⟩
  have hs:∀(z:Nat) b,kK vars (3+(y:Int)) vars.length (0,(z:Int))=some b->∃m:Nat,b=m/\m<vars.length/\gY vars x (3+(y:Int)) 0 z=x.getD m 0:=by
   intro z b h
   obtain⟨m,rfl,hm,e⟩:=iA h
   exact⟨m,rfl,hm,by rw[rZ h,tN]⟩
  have hno:∀z:Nat,kK vars (3+(y:Int)) vars.length (0,(z:Int))=none->gY vars x (3+(y:Int)) 0 z=0:=fun z=>r4
  have hF0:F 0=[]:=by rw[hF];rfl
  rw[<-hF] at edg hu hX
  obtain⟨G,hG⟩:∃G:Nat->Int,G=fun z:Nat=>gY vars x (3+(y:Int)) 0 z:=⟨_,rfl⟩
  have eG:∀z:Nat,gY vars x (3+(y:Int)) 0 z=G z:=fun z=>by rw[hG]
  simp only[eG] at hu h8y hs hno
  clear hG eG hF hw hxl h8
  generalize I0 vars x p.states.length y=W0 at*
  obtain rfl|rfl:y=0\/y=1:=by omega
  all_goals
   refine bX (by decide) ?_
   conv=>whnf
   refine aQ.loopF ae ag (fun z:Nat=>z<=p.states.length) (fun z=>[(54, .int .i64 (z:Int))]) (fun z=>[(4, .box 61 jj),(5, .box 61 [.nilsl, .row 1000 (W0++F z).length 1, .int .i64 (x.getD 0 0-x.getD 2 0), .row 27 p.messages.length 1, .row 37 p.messages.length 1, .int .i64 0]),(27, .row 3 0 ao (List.replicate p.messages.length 0)),(37, .row 3 0 ao (List.replicate p.messages.length 0)),(39, .row 3 0 ao [3,4]),(1000, .row 3 0 ao (W0++F z))]++cG p q sch vars []) (fun z=>p.states.length-z) 0 (Nat.zero_le _) ?_;conv=>whnf
   refine⟨by rw[hF0,List.append_nil];exact bn.by_ ([(4, .old 4),(5, .old 5),(27, .old 27),(37, .old 37),(39, .old 39),(1000, .old 1000)]++cH) _ 400 rfl (aa) (aa),?_⟩
   rintro z hz
   have hXz:=hX z hz
   have huz:=hu z
   conv=>whnf
   refine ah ?_ ?_<;>(intro g2;conv=>whnf)
   rotate_left
   ·obtain rfl:z=p.states.length:=by omega
    repeat' ((first|refine nI ?_|refine aI ?_|refine fb trivial (by omega) ?_|refine fv trivial (by omega) ?_|refine dI ?_|refine dR ?_|refine dP ?_|refine al rfl ?_|refine pI _ rfl ?_|refine aw _ rfl ?_|refine tI ?_|refine fI ?_|refine ah (fun _=>?_) (fun _=>?_))<;>conv=>whnf)
    first
     |(refine⟨0+1,?_,by omega,by dsimp only;omega⟩;dsimp only;rw[edg];exact bn.by_ ([(4, .old 4),(5, .old 5),(27, .old 27),(37, .old 37),(39, .old 39),(1000, .old 1000)]++cH) _ 400 rfl (aa) (aa))
     |(refine⟨1+1,?_,by omega,by dsimp only;omega⟩;dsimp only;rw[edg];exact bn.by_ ([(4, .old 4),(5, .old 5),(27, .old 27),(37, .old 37),(39, .old 39),(1000, .old 1000)]++cH) _ 400 rfl (aa) (aa))
     |fail
   refine bX (by decide) ?_
   conv=>whnf
   refine wk iH (0,(z:Int)) rfl (fun b hb=>?_) (fun hb=>?_)<;>conv=>whnf
   rotate_left
   ·have e:=hno z hb
    rw[e] at huz
    have huz:F (z+1)=F z:=by rw[huz];exact List.append_nil _
    repeat' ((first|refine nI ?_|refine aI ?_|refine fb trivial (by omega) ?_|refine fv trivial (by omega) ?_|refine dI ?_|refine dR ?_|refine dP ?_|refine al rfl ?_|refine pI _ rfl ?_|refine aw _ rfl ?_|refine tI ?_|refine fI ?_|refine ah (fun _=>?_) (fun _=>?_))<;>conv=>whnf)
    refine⟨z+1,?_,by omega,by dsimp only;omega⟩
    dsimp only
    rw[huz]
    exact bn.by_ ([(4, .old 4),(5, .old 5),(27, .old 27),(37, .old 37),(39, .old 39),(1000, .old 1000)]++cH) _ 400 rfl (aa) (aa)
   ·have h8z:=h8y z (by omega)
    obtain⟨m,rfl,hm,e⟩:=hs z b hb
    rw[e] at huz h8z
    have hR:=IZ (z:Int) (x.getD m 0).toNat (by omega)
    rw[Int.toNat_of_nonneg h8z.1] at hR
    have huz:W0++F (z+1)=W0++F z++List.replicate (x.getD m 0).toNat (z:Int):=by rw[huz,List.append_assoc]
    have hln:(List.replicate (x.getD m 0).toNat (z:Int)).length<=8:=by rw[List.length_replicate];omega
    have hlW:(W0++F z).length<=100000:=by rw[List.length_append];omega
    generalize List.replicate (x.getD m 0).toNat (z:Int)=RL at*
    rw[<-tN m] at hR
    refine rI [0,2,4,5,6,7,10] (by decide+kernel) ?_
    conv=>whnf
    repeat' first
     |exact True.intro
     |(refine And.intro ?_ ?_<;>conv=>whnf)
     |(refine nI ?_;conv=>whnf)
     |(refine cf 0 ao [(z:Int)] rfl ?_;conv=>whnf)
     |(refine fl ?_;conv=>whnf)
     |(refine am.hand 73 rfl ?_;refine am.of_pure (n:=5) hR rfl ?_;rintro _ rfl;conv=>whnf)
     |(refine cz RL rfl (by dsimp only;omega) ?_;conv=>whnf)
     |(refine aI ?_;conv=>whnf)
     |fail
    all_goals
     refine⟨z+1,?_,by omega,by dsimp only;omega⟩
     dsimp only
     rw[huz]
     exact bn.by_ ([(4, .old 4),(5, .old 5),(27, .old 27),(37, .old 37),(39, .old 39),(1000, .old 79)]++cH) _ 400 rfl (aa) (aa)
end Go.Proofs.YtekmminpfhacpaaGreatDoor
