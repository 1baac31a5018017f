import Derived.Test.YtekmminpfhacpaaGreatDoorQ7
import Derived.Test.YtekmminpfhacpaaGreatDoorX4
import Derived.Test.YtekmminpfhacpaaGreatDoorHA
set_option linter.unusedVariables false
set_option linter.unusedSimpArgs false
namespace Go.Proofs.YtekmminpfhacpaaGreatDoor
section
set_option maxRecDepth 100000
set_option maxHeartbeats 16000000
def yd (p:av) (q:aP) (i:Nat):dF:=gg p q ((aO p).getD (i / db p q) []) ((i % db p q:Nat):Int)
noncomputable def l5 (p:av) (q:aP) (nodes:Int):Nat->Int
 |0=>2
 |n+1=>if l5 p q nodes n=1 then 1 else if p6 (yd p q n) nodes=1 then 1 else if p6 (yd p q n) nodes=0 then 0 else l5 p q nodes n
noncomputable def Pl (p:av) (q:aP) (nodes:Int) (i:Nat):Fl:=⟨(aO p).getD (i / db p q) [],((i % db p q:Nat):Int),if p6 (yd p q i) nodes=2 then Kw (yd p q i) nodes else[]⟩
noncomputable def B8 (p:av) (q:aP) (nodes:Int) (i:Nat):List Fl:=(List.range i).map (Pl p q nodes)
def eQ (p:av) (q:aP):Nat:=(aO p).length*db p q
noncomputable def Iz (p:av) (q:aP) (nodes:Int):AV:=
 if dq p q≠0 then .tup [.int .i64 0, .nilsl, .int .i64 (dq p q)]
 else if l5 p q nodes (eQ p q)=2 then .tup [.int .i64 2, .sl je uz (B8 p q nodes (eQ p q)), .int .i64 0]
 else .tup [.int .i64 (l5 p q nodes (eQ p q)), .nilsl, .int .i64 0]
section
variable {p:av} {q:aP} {nodes:Int}
theorem lJ (i:Nat):(B8 p q nodes i).length=i:=by simp[B8]
theorem Nv (i:Nat):B8 p q nodes (i+1)=B8 p q nodes i++[Pl p q nodes i]:=by
 unfold B8
 rw[List.range_succ,List.map_append]
 rfl
theorem oF (n:Nat):l5 p q nodes (n+1)=if l5 p q nodes n=1 then 1 else if p6 (yd p q n) nodes=1 then 1 else if p6 (yd p q n) nodes=0 then 0 else l5 p q nodes n:=rfl
theorem sA {i:Nat} (h:l5 p q nodes i=1):∀n,i<=n->l5 p q nodes n=1
 |0,hn=>by
  obtain rfl:i=0:=by omega
  exact h
 |n+1,hn=>by
  by_cases e:i=n+1
  ·subst e;exact h
  ·rw[oF,sA h n (by omega),if_pos rfl]
theorem Am {i:Nat} (h:l5 p q nodes i≠2):∀n,i<=n->l5 p q nodes n≠2
 |0,hn=>by
  obtain rfl:i=0:=by omega
  exact h
 |n+1,hn=>by
  by_cases e:i=n+1
  ·subst e;exact h
  ·have:=Am h n (by omega)
   rw[oF]
   (repeat' split)<;>first|omega|exact this
theorem DG {n:Nat} (h:l5 p q nodes n=2):∀i,i<n->p6 (yd p q i) nodes=2:=by
 intro i hi
 refine Classical.byContradiction fun hk=>?_
 refine Am (p:=p) (q:=q) (nodes:=nodes) (i:=i+1) ?_ n (by omega) h
 rw[oF]
 rcases pT (yd p q i) nodes with e|e|e
 ·(repeat' split)<;>omega
 ·(repeat' split)<;>omega
 ·exact absurd e hk
theorem KF (n:Nat):l5 p q nodes n=0\/l5 p q nodes n=1\/l5 p q nodes n=2:=by
 induction n with
 |zero=>exact .inr (.inr rfl)
 |succ n ih=>
  rw[oF]
  (repeat' split)<;>simp[ih]
theorem DH {a b:Nat} (hb:b<db p q):(a*db p q+b) / db p q=a/\(a*db p q+b) % db p q=b:=by
 have hc:0<db p q:=by omega
 constructor
 ·rw[Nat.mul_comm,Nat.mul_add_div hc,Nat.div_eq_of_lt hb,Nat.add_zero]
 ·rw[Nat.mul_comm,Nat.mul_add_mod,Nat.mod_eq_of_lt hb]
theorem x6 {a b:Nat} (hb:b<db p q):yd p q (a*db p q+b)=gg p q ((aO p).getD a []) (b:Int):=by
 unfold yd
 rw[(DH hb).1,(DH hb).2]
theorem Nw {a b:Nat} (hb:b<db p q):Pl p q nodes (a*db p q+b)=⟨(aO p).getD a [],(b:Int),if p6 (gg p q ((aO p).getD a []) (b:Int)) nodes=2 then Kw (gg p q ((aO p).getD a []) (b:Int)) nodes else[]⟩:=by
 unfold Pl
 rw[x6 hb,(DH hb).1,(DH hb).2]
theorem Nx (h0:dq p q=0) (h:l5 p q nodes (eQ p q)=2):DB (B8 p q nodes (eQ p q))/\Af p q (B8 p q nodes (eQ p q)):=by
 have hpr:=du h0
 have hv:=(aW hpr).vld
 have hsl:=mU hv
 have hT:=(aN hv).thr
 have hcs:=om h0
 have hm:eQ p q<=64*64:=Nat.mul_le_mul hsl (by omega)
 have hat:∀i,i<eQ p q->i / db p q<(aO p).length:=fun i hi=>Nat.div_lt_of_lt_mul (by rw[Nat.mul_comm];exact hi)
 have hse:∀i,i<eQ p q->eZ (yd p q i)=0:=fun i hi=>nl hpr (cN p (hat i hi)) _
 have hget:∀i,i<eQ p q->(B8 p q nodes (eQ p q)).getD i je=Pl p q nodes i:=fun i hi=>by
  rw[ap je (by rw[lJ];exact hi)]
  simp[B8]
 refine⟨⟨by rw[lJ];omega,fun x hx=>?_⟩,⟨⟨h0,lJ _⟩,fun i hi=>?_⟩⟩
 ·unfold B8 at hx
  obtain⟨i,hi,rfl⟩:=List.mem_map.1 hx
  have hi:=List.mem_range.1 hi
  have hk:=DG h i hi
  refine⟨?_,?_⟩
  ·have:=cu (cN p (hat i hi))
   show((aO p).getD (i / db p q) []).length<=_
   omega
  ·show HF (if p6 (yd p q i) nodes=2 then Kw (yd p q i) nodes else[])
   rw[if_pos hk]
   exact Np (hse i hi) hk
 ·rw[lJ] at hi
  have hk:=DG h i hi
  unfold uU
  rw[hget i hi]
  refine⟨⟨rfl,rfl⟩,?_⟩
  show qG (yd p q i) (if p6 (yd p q i) nodes=2 then Kw (yd p q i) nodes else[])
  rw[if_pos hk]
  exact Nn (hse i hi) hk
end
theorem Ny (p:av) (q:aP) (nodes:Int) (hp:lO p) (hq:rS q):ah Tryz.prog 10 [.agg (cV p), .agg (eO q), .int .i64 nodes] (fun u=>u=Iz p q nodes):=by
 have he:=Iz.eq_1 p q nodes
 generalize Iz p q nodes=A at he
 refine ah.intro ab ac Tryz.func10 rfl (by decide) ?_;(conv=>whnf)
 refine au rfl ?_
 conv=>whnf
 refine au rfl ?_
 conv=>whnf
 refine aj.of_pure (n:=5) (tS p q hp hq) (by rfl) ?_
 rintro _ rfl
 by_cases h0:dq p q=0
 rotate_left
 ·rw[if_pos h0] at he
  rw[gz rfl h0]
  conv=>whnf
  refine cO h0 ?_
  conv=>whnf
  exact⟨he.symm,rfl⟩
 rw[if_neg (fun y=>y h0)] at he
 rw[ja h0]
 have hq0:=du h0
 have hv:=(aW hq0).vld
 have hT:=(aN hv).thr
 have hcs:=om h0
 have hsl:=mU hv
 have hS:=tX p q (by omega)
 have hB:=fun(a b:Nat) (ha:a<(aO p).length) (hb:b<=64)=>BF p q hq0 ((aO p).getD a []) (cN p ha) (b:Int) (by omega)
 have hK:=fun(a b:Nat) (ha:a<(aO p).length)=>B4 (gg p q ((aO p).getD a []) (b:Int)) nodes (nl hq0 (cN p ha) (b:Int)) (by
  show 0<((az p q ((aO p).getD a [])).length:Int)
  unfold az
  simp only[List.length_append,List.length_cons]
  omega)
 have hlen:=fun(a:Nat) (ha:a<(aO p).length)=>cu (cN p ha)
 have hm:eQ p q<=64*64:=Nat.mul_le_mul hsl (by omega)
 conv=>whnf
 refine cX (by decide) ?_
 conv=>whnf
 (refine oP (hS) ?_;conv=>whnf)
 refine aJ.loopF ab ac (fun a:Nat=>a<=(aO p).length/\l5 p q nodes (a*db p q)≠1) (fun a=>[(30, .int .i64 (a:Int)),(11, .row 1000 (B8 p q nodes (a*db p q)).length 3),(12, .bool (decide (l5 p q nodes (a*db p q)=2)))]) (fun a=>[(1000, .row 110 je uz (B8 p q nodes (a*db p q)))]) (fun a=>(aO p).length-a) 0 ⟨Nat.zero_le _,by rw[Nat.zero_mul];show(2:Int)≠1;decide⟩ ?_;conv=>whnf
 refine⟨by
  rw[Nat.zero_mul,decide_eq_true (show l5 p q nodes 0=2 from rfl)]
  exact aH.by_ [(1000, .nil 3)] _ 400 rfl (aa) (aa),?_⟩
 rintro a ⟨ha,ho⟩
 conv=>whnf
 refine ae ?_ ?_<;>(intro g1;conv=>whnf)
 ·have hal:a<(aO p).length:=by omega
  refine nI ?_
  rw[tN]
  conv=>whnf
  refine aJ.loopF ab ac (fun b:Nat=>b<=db p q/\l5 p q nodes (a*db p q+b)≠1) (fun b=>[(38, .int .i64 (b:Int)),(11, .row 1000 (B8 p q nodes (a*db p q+b)).length 3),(12, .bool (decide (l5 p q nodes (a*db p q+b)=2)))]) (fun b=>[(1000, .row 110 je uz (B8 p q nodes (a*db p q+b)))]) (fun b=>db p q-b) 0 ⟨Nat.zero_le _,ho⟩ ?_;conv=>whnf
  refine⟨aH.by_ [(1000, .old 1000)] _ 400 rfl (aa) (aa),?_⟩
  rintro b ⟨hb,ho2⟩
  conv=>whnf
  refine ae ?_ ?_<;>(intro g2;conv=>whnf)
  ·have hbl:b<db p q:=by omega
   have up:=oF (p:=p) (q:=q) (nodes:=nodes) (a*db p q+b)
   have uL:=Nv (p:=p) (q:=q) (nodes:=nodes) (a*db p q+b)
   have hlt:a*db p q+b+1<=eQ p q:=by
    have:=Nat.mul_le_mul_right (db p q) (show a+1<=(aO p).length by omega)
    rw[Nat.succ_mul] at this
    unfold eQ
    omega
   have hll:=lJ (p:=p) (q:=q) (nodes:=nodes) (a*db p q+b)
   have hcl:=MH ((aO p).getD a []) (by have:=hlen a hal;omega)
   rw[x6 hbl,if_neg ho2] at up
   rw[Nw hbl] at uL
   have hSv:=hK a b hal
   unfold Ae mG gg at hSv
   dsimp only at hSv
   have hkd:=pT (gg p q ((aO p).getD a []) (b:Int)) nodes
   unfold gg at up hkd
   (refine oP (hB a b hal (by omega)) ?_;conv=>whnf)
   rcases hkd with hk|hk|hk
   ·rw[hk,if_neg (by decide),if_neg (by decide)] at hSv
    rw[hk,if_neg (by decide),if_pos rfl] at up
    rw[show p6 (gg p q ((aO p).getD a []) (b:Int)) nodes=0 from hk,if_neg (by decide)] at uL
    (refine oP (hSv) ?_;conv=>whnf)
    refine cX (by decide) ?_
    conv=>whnf
    refine cX (by decide) ?_
    conv=>whnf
    refine cO (by decide) ?_
    conv=>whnf
    apply c5
    case k=>
     intro o1 o2 o3 o4 o5 o6
     refine fC [1,3,4,6] (by decide+kernel) ?_
     conv=>whnf
     repeat' first
      |exact True.intro
      |(refine And.intro ?_ ?_<;>conv=>whnf)
      |(refine oP hcl ?_;conv=>whnf)
      |(refine FF je uz [⟨(aO p).getD a [],(b:Int),[]⟩] ⟨⟨.inl rfl, .inl rfl, .inr ⟨rfl,_,_,_,rfl⟩,trivial⟩,trivial⟩ ?_;conv=>whnf)
      |(refine bq [⟨(aO p).getD a [],(b:Int),[]⟩] rfl (by clear o1 o2 o3 o4 o5 o6;simp only[List.length_cons,List.length_nil];omega) ?_;conv=>whnf)
      |(refine bU ?_;conv=>whnf)
      |with_reducible assumption
      |fail
    all_goals try first
     |exact True.intro
     |exact True
    all_goals
     repeat' ((first|refine nI ?_|refine aI ?_|refine uI ?_|refine vI ?_|refine dI ?_|refine dR ?_|refine dP ?_|refine au rfl ?_|refine pI _ rfl ?_|refine ak _ rfl ?_|refine tI ?_|refine fI ?_|refine ae (fun _=>?_) (fun _=>?_))<;>conv=>whnf)
     refine⟨b+1,?_,⟨by omega,by rw[<-Nat.add_assoc,up];decide⟩,by dsimp only;omega⟩
     dsimp only
     rw[<-Nat.add_assoc,uL,up]
     exact aH.by_ [(1000, .old 70)] _ 400 rfl (aa) (aa)
   ·rw[hk,if_pos rfl] at hSv
    rw[hk,if_pos rfl] at up
    (refine oP (hSv) ?_;conv=>whnf)
    refine cX (by decide) ?_
    conv=>whnf
    refine cO (by decide) ?_
    conv=>whnf
    have h1:=sA up (eQ p q) hlt
    rw[h1,if_neg (by decide)] at he
    exact⟨he.symm,rfl⟩
   ·rw[hk,if_neg (by decide),if_pos rfl] at hSv
    rw[hk,if_neg (by decide),if_neg (by decide)] at up
    rw[show p6 (gg p q ((aO p).getD a []) (b:Int)) nodes=2 from hk,if_pos rfl] at uL
    (refine oP (hSv) ?_;conv=>whnf)
    refine cX (by decide) ?_
    conv=>whnf
    refine cX (by decide) ?_
    conv=>whnf
    refine cX (by decide) ?_
    conv=>whnf
    apply c5
    case k=>
     intro o1 o2 o3 o4 o5 o6
     refine fC [1,3,4,6] (by decide+kernel) ?_
     conv=>whnf
     repeat' first
      |exact True.intro
      |(refine And.intro ?_ ?_<;>conv=>whnf)
      |(refine oP hcl ?_;conv=>whnf)
      |(refine bp je uz [⟨(aO p).getD a [],(b:Int),Kw (gg p q ((aO p).getD a []) (b:Int)) nodes⟩] rfl ?_;conv=>whnf)
      |(refine bq [⟨(aO p).getD a [],(b:Int),Kw (gg p q ((aO p).getD a []) (b:Int)) nodes⟩] rfl (by clear o1 o2 o3 o4 o5 o6;simp only[List.length_cons,List.length_nil];omega) ?_;conv=>whnf)
      |(refine bU ?_;conv=>whnf)
      |with_reducible assumption
      |fail
    all_goals try first
     |exact True.intro
     |exact True
    all_goals
     repeat' ((first|refine nI ?_|refine aI ?_|refine uI ?_|refine vI ?_|refine dI ?_|refine dR ?_|refine dP ?_|refine au rfl ?_|refine pI _ rfl ?_|refine ak _ rfl ?_|refine tI ?_|refine fI ?_|refine ae (fun _=>?_) (fun _=>?_))<;>conv=>whnf)
     refine⟨b+1,?_,⟨by omega,by rw[<-Nat.add_assoc,up];exact ho2⟩,by dsimp only;omega⟩
     dsimp only
     rw[<-Nat.add_assoc,uL,up]
     exact aH.by_ [(1000, .old 70)] _ 400 rfl (aa) (aa)
  ·obtain rfl:b=db p q:=by omega
   repeat' ((first|refine nI ?_|refine aI ?_|refine tI ?_|refine fI ?_|fail);conv=>whnf)
   refine⟨a+1,?_,⟨by omega,by rw[Nat.succ_mul];exact ho2⟩,by dsimp only;omega⟩
   dsimp only
   rw[Nat.succ_mul]
   exact aH.by_ [(1000, .old 1000)] _ 400 rfl (aa) (aa)
 ·obtain rfl:a=(aO p).length:=by omega
  by_cases h2:l5 p q nodes ((aO p).length*db p q)=2
  ·rw[decide_eq_true h2]
   conv=>whnf
   rw[if_pos (show l5 p q nodes (eQ p q)=2 from h2)] at he
   exact⟨he.symm,rfl⟩
  ·rw[decide_eq_false h2]
   conv=>whnf
   rw[if_neg (show¬l5 p q nodes (eQ p q)=2 from h2)] at he
   have h3:l5 p q nodes (eQ p q)=0:=by
    rcases KF (p:=p) (q:=q) (nodes:=nodes) (eQ p q) with e|e|e
    ·exact e
    ·exact absurd e ho
    ·exact absurd e h2
   rw[h3] at he
   exact⟨he.symm,rfl⟩
end
section
set_option maxRecDepth 100000
set_option maxHeartbeats 16000000
theorem Fe (p:av) (q:aP) (hp:lO p) (hq:rS q) (nodes:Int):
  ah Tryz.prog 3 [.agg (KY p q), .int .i64 nodes] (fun u=>u= .bool true):=by
 have hs:=OJ
 have hfw:=PT nodes
 generalize (if 40<nodes then(40:Int) else nodes)=few at hfw
 have hP:=Ny p q few hp hq
 have hSc:=zq p q hp hq
 have hCa:=Mm p q hp hq
 refine ah.intro ab ac Tryz.func3 rfl (by decide) ?_;(conv=>whnf)
 refine au rfl ?_
 conv=>whnf
 apply c5
 case k=>
  intro o1 o2 o3 o4 o5 o6
  refine fC [0,1,2,3] (by decide+kernel) ?_
  conv=>whnf
  repeat' first
   |exact True.intro
   |(refine And.intro ?_ ?_<;>conv=>whnf)
   |with_reducible assumption
   |fail
 all_goals try first
  |exact True.intro
  |exact True
 all_goals
  (refine oP (hfw) ?_;conv=>whnf)
  by_cases h0:dq p q=0
  rotate_left
  ·unfold Iz at hP
   rw[if_pos h0] at hP
   rw[xp h0] at hSc
   rw[if_neg h0] at hCa
   (refine oP (hP) ?_;conv=>whnf)
   (refine oP (hSc) ?_;conv=>whnf)
   (refine oP (hCa) ?_;conv=>whnf)
   refine cX (fun h=>h rfl) ?_
   conv=>whnf
   refine cO h0 ?_
   conv=>whnf
   refine cO rfl ?_
   conv=>whnf
   refine cO rfl ?_
   conv=>whnf
   refine cO rfl ?_
   conv=>whnf
   (refine oP (hs) ?_;conv=>whnf)
   exact⟨rfl,rfl⟩
  rw[tV h0] at hSc
  rw[if_pos h0,h0] at hCa
  have hq0:=du h0
  have hv:=(aW hq0).vld
  have hT:=(aN hv).thr
  have hcs:=om h0
  have hc0:=xY p q
  have hsl:=mU hv
  have hm:(aO p).length*db p q<=64*64:=Nat.mul_le_mul hsl (by omega)
  have hmz:((aO p).length:Int)*(db p q:Int)=(eQ p q:Int):=by unfold eQ;push_cast;rfl
  have hsl0:0<(aO p).length:=by
   unfold aO
   cases (ay p.rules).length<;>simp[oe]
  have htot:0<eQ p q:=Nat.mul_pos hsl0 hc0
  unfold Iz at hP
  rw[if_neg (fun y=>y h0)] at hP
  by_cases h2:l5 p q few (eQ p q)=2
  ·rw[if_pos h2] at hP
   obtain⟨hok,hac⟩:=Nx h0 h2
   have hAF:=KB p q hp hq _ hok
   have hAR:=KC p q hp hq _ hok
   rw[decide_eq_true hac] at hAF hAR
   have hpl:=lJ (p:=p) (q:=q) (nodes:=few) (eQ p q)
   (refine oP (hP) ?_;conv=>whnf)
   (refine oP (hSc) ?_;conv=>whnf)
   (refine oP (hCa) ?_;conv=>whnf)
   refine cX (fun h=>h rfl) ?_
   conv=>whnf
   refine cX (fun h=>h rfl) ?_
   conv=>whnf
   refine Ip hmz trivial (by omega) ?_
   conv=>whnf
   refine ae ?_ ?_<;>(intro g40;conv=>whnf)
   ·refine cO rfl ?_
    conv=>whnf
    refine cO (by rw[lJ];omega) ?_
    conv=>whnf
    (refine oP (hs) ?_;conv=>whnf)
    exact⟨rfl,rfl⟩
   refine aJ.loopF ab ac (fun i:Nat=>i<=eQ p q) (fun i=>[(15, .int .i64 (i:Int)),(14, .int .i64 (l5 p q few i))]) (fun _=>[(5, .box 27 (cV p)),(6, .box 30 (eO q))]) (fun i=>eQ p q-i) 0 (Nat.zero_le _) ?_;conv=>whnf
   refine⟨aH.by_ [(5, .old 5),(6, .old 6)] _ 400 rfl (aa) (aa),?_⟩
   intro i hi
   conv=>whnf
   refine Ip hmz trivial (by omega) ?_
   conv=>whnf
   by_cases hend:l5 p q few i=1\/i=eQ p q
   ·have hfin:l5 p q few i=l5 p q few (eQ p q):=by
     rcases hend with e|e
     ·rw[e,sA e _ hi]
     ·rw[e]
    by_cases g1:i<eQ p q
    ·refine tI ?_
     conv=>whnf
     refine fI ?_
     conv=>whnf
     refine cX (by rw[hfin,h2];exact fun h=>h rfl) ?_
     conv=>whnf
     refine cO rfl ?_
     conv=>whnf
     (refine oP (hAR) ?_;conv=>whnf)
     (refine oP (hAF) ?_;conv=>whnf)
     (refine oP (hs) ?_;conv=>whnf)
     exact⟨rfl,rfl⟩
    ·refine fI ?_
     conv=>whnf
     refine cX (by rw[hfin,h2];exact fun h=>h rfl) ?_
     conv=>whnf
     refine cO rfl ?_
     conv=>whnf
     (refine oP (hAR) ?_;conv=>whnf)
     (refine oP (hAF) ?_;conv=>whnf)
     (refine oP (hs) ?_;conv=>whnf)
     exact⟨rfl,rfl⟩
   have g1:i<eQ p q:=by
    refine Classical.byContradiction fun h=>hend (.inr (by omega))
   have g2:l5 p q few i≠1:=fun h=>hend (.inl h)
   obtain⟨a,ha⟩:∃a,a=i / db p q:=⟨_,rfl⟩
   obtain⟨b,hb⟩:∃b,b=i % db p q:=⟨_,rfl⟩
   have hal:a<(aO p).length:=by rw[ha];exact Nat.div_lt_of_lt_mul (by rw[Nat.mul_comm];exact g1)
   have hbl:b<db p q:=by rw[hb];exact Nat.mod_lt _ hc0
   have hia:i=a*db p q+b:=by rw[ha,hb,Nat.mul_comm];exact(Nat.div_add_mod i (db p q)).symm
   have eq1:((i:Int).tdiv (db p q:Int))=(a:Int):=by rw[ha];rfl
   have eq2:AV.int .i64 ((i:Int).tmod (db p q:Int))= .int .i64 (b:Int):=by rw[hb];rfl
   have up:=oF (p:=p) (q:=q) (nodes:=few) i
   rw[if_neg g2,show yd p q i=gg p q ((aO p).getD a []) (b:Int) by rw[hia];exact x6 hbl] at up
   have hlen:=cu (cN p hal)
   have hBe:=B7 p q hp hq ((aO p).getD a []) (by omega) (b:Int)
   rw[xt,if_neg (by omega),if_neg (by
    rintro(hh|hh|hh)
    ·exact hh (cN p hal)
    ·omega
    ·omega)] at hBe
   have hSv:=B4 (gg p q ((aO p).getD a []) (b:Int)) few (nl hq0 (cN p hal) (b:Int)) (by
    show 0<((az p q ((aO p).getD a [])).length:Int)
    unfold az
    simp only[List.length_append,List.length_cons]
    omega)
   have hkd:=pT (gg p q ((aO p).getD a []) (b:Int)) few
   unfold Ae mG gg at hSv
   dsimp only at hSv
   unfold gg at up hkd
   refine tI ?_
   conv=>whnf
   refine cO g2 ?_
   conv=>whnf
   first|refine dI ?_|refine iV (by decide+kernel) ?_|refine eI (by decide+kernel) ?_
   conv=>whnf
   refine Ip eq1 (by omega) (by omega) ?_
   conv=>whnf
   refine nI ?_
   rw[tN]
   conv=>whnf
   refine Ag (by omega) eq2 ?_
   conv=>whnf
   (refine oC (hBe) ?_;conv=>whnf)
   rcases hkd with hk|hk|hk
   ·rw[hk,if_neg (by decide),if_neg (by decide)] at hSv
    rw[hk,if_neg (by decide),if_pos rfl] at up
    (refine oP (hSv) ?_;conv=>whnf)
    refine cX (by decide) ?_
    conv=>whnf
    refine cX (by decide) ?_
    conv=>whnf
    refine cO (by decide) ?_
    conv=>whnf
    repeat' ((first|refine nI ?_|refine aI ?_|refine uI ?_|refine vI ?_|refine dI ?_|refine dR ?_|refine dP ?_|refine au rfl ?_|refine pI _ rfl ?_|refine ak _ rfl ?_|refine tI ?_|refine fI ?_|refine ae (fun _=>?_) (fun _=>?_))<;>conv=>whnf)
    refine⟨i+1,?_,by omega,by dsimp only;omega⟩
    dsimp only
    rw[up]
    exact aH.by_ [(5, .old 5),(6, .old 6)] _ 400 rfl (aa) (aa)
   ·rw[hk,if_pos rfl] at hSv
    rw[hk,if_pos rfl] at up
    (refine oP (hSv) ?_;conv=>whnf)
    refine cX (by decide) ?_
    conv=>whnf
    refine cO (by decide) ?_
    conv=>whnf
    repeat' ((first|refine nI ?_|refine aI ?_|refine uI ?_|refine vI ?_|refine dI ?_|refine dR ?_|refine dP ?_|refine au rfl ?_|refine pI _ rfl ?_|refine ak _ rfl ?_|refine tI ?_|refine fI ?_|refine ae (fun _=>?_) (fun _=>?_))<;>conv=>whnf)
    refine⟨i+1,?_,by omega,by dsimp only;omega⟩
    dsimp only
    rw[up]
    exact aH.by_ [(5, .old 5),(6, .old 6)] _ 400 rfl (aa) (aa)
   ·rw[hk,if_neg (by decide),if_pos rfl] at hSv
    rw[hk,if_neg (by decide),if_neg (by decide)] at up
    (refine oP (hSv) ?_;conv=>whnf)
    refine cX (by decide) ?_
    conv=>whnf
    refine cX (by decide) ?_
    conv=>whnf
    refine cX (by decide) ?_
    conv=>whnf
    repeat' ((first|refine nI ?_|refine aI ?_|refine uI ?_|refine vI ?_|refine dI ?_|refine dR ?_|refine dP ?_|refine au rfl ?_|refine pI _ rfl ?_|refine ak _ rfl ?_|refine tI ?_|refine fI ?_|refine ae (fun _=>?_) (fun _=>?_))<;>conv=>whnf)
    refine⟨i+1,?_,by omega,by dsimp only;omega⟩
    dsimp only
    rw[up]
    exact aH.by_ [(5, .old 5),(6, .old 6)] _ 400 rfl (aa) (aa)
  ·rw[if_neg h2] at hP
   (refine oP (hP) ?_;conv=>whnf)
   (refine oP (hSc) ?_;conv=>whnf)
   (refine oP (hCa) ?_;conv=>whnf)
   refine cX (fun h=>h rfl) ?_
   conv=>whnf
   refine cX (fun h=>h rfl) ?_
   conv=>whnf
   refine Ip hmz trivial (by omega) ?_
   conv=>whnf
   refine ae ?_ ?_<;>(intro g40;conv=>whnf)
   ·refine cX h2 ?_
    conv=>whnf
    refine cX (by decide) ?_
    conv=>whnf
    (refine oP (hs) ?_;conv=>whnf)
    exact⟨rfl,rfl⟩
   refine aJ.loopF ab ac (fun i:Nat=>i<=eQ p q) (fun i=>[(15, .int .i64 (i:Int)),(14, .int .i64 (l5 p q few i))]) (fun _=>[(5, .box 27 (cV p)),(6, .box 30 (eO q))]) (fun i=>eQ p q-i) 0 (Nat.zero_le _) ?_;conv=>whnf
   refine⟨aH.by_ [(5, .old 5),(6, .old 6)] _ 400 rfl (aa) (aa),?_⟩
   intro i hi
   conv=>whnf
   refine Ip hmz trivial (by omega) ?_
   conv=>whnf
   by_cases hend:l5 p q few i=1\/i=eQ p q
   ·have hfin:l5 p q few i=l5 p q few (eQ p q):=by
     rcases hend with e|e
     ·rw[e,sA e _ hi]
     ·rw[e]
    by_cases g1:i<eQ p q
    ·refine tI ?_
     conv=>whnf
     refine fI ?_
     conv=>whnf
     refine cX (by rw[hfin];exact fun h=>h rfl) ?_
     conv=>whnf
     refine cX h2 ?_
     conv=>whnf
     refine cO h2 ?_
     conv=>whnf
     refine cO rfl ?_
     conv=>whnf
     (refine oP (hs) ?_;conv=>whnf)
     exact⟨rfl,rfl⟩
    ·refine fI ?_
     conv=>whnf
     refine cX (by rw[hfin];exact fun h=>h rfl) ?_
     conv=>whnf
     refine cX h2 ?_
     conv=>whnf
     refine cO h2 ?_
     conv=>whnf
     refine cO rfl ?_
     conv=>whnf
     (refine oP (hs) ?_;conv=>whnf)
     exact⟨rfl,rfl⟩
   have g1:i<eQ p q:=by
    refine Classical.byContradiction fun h=>hend (.inr (by omega))
   have g2:l5 p q few i≠1:=fun h=>hend (.inl h)
   obtain⟨a,ha⟩:∃a,a=i / db p q:=⟨_,rfl⟩
   obtain⟨b,hb⟩:∃b,b=i % db p q:=⟨_,rfl⟩
   have hal:a<(aO p).length:=by rw[ha];exact Nat.div_lt_of_lt_mul (by rw[Nat.mul_comm];exact g1)
   have hbl:b<db p q:=by rw[hb];exact Nat.mod_lt _ hc0
   have hia:i=a*db p q+b:=by rw[ha,hb,Nat.mul_comm];exact(Nat.div_add_mod i (db p q)).symm
   have eq1:((i:Int).tdiv (db p q:Int))=(a:Int):=by rw[ha];rfl
   have eq2:AV.int .i64 ((i:Int).tmod (db p q:Int))= .int .i64 (b:Int):=by rw[hb];rfl
   have up:=oF (p:=p) (q:=q) (nodes:=few) i
   rw[if_neg g2,show yd p q i=gg p q ((aO p).getD a []) (b:Int) by rw[hia];exact x6 hbl] at up
   have hlen:=cu (cN p hal)
   have hBe:=B7 p q hp hq ((aO p).getD a []) (by omega) (b:Int)
   rw[xt,if_neg (by omega),if_neg (by
    rintro(hh|hh|hh)
    ·exact hh (cN p hal)
    ·omega
    ·omega)] at hBe
   have hSv:=B4 (gg p q ((aO p).getD a []) (b:Int)) few (nl hq0 (cN p hal) (b:Int)) (by
    show 0<((az p q ((aO p).getD a [])).length:Int)
    unfold az
    simp only[List.length_append,List.length_cons]
    omega)
   have hkd:=pT (gg p q ((aO p).getD a []) (b:Int)) few
   unfold Ae mG gg at hSv
   dsimp only at hSv
   unfold gg at up hkd
   refine tI ?_
   conv=>whnf
   refine cO g2 ?_
   conv=>whnf
   first|refine dI ?_|refine iV (by decide+kernel) ?_|refine eI (by decide+kernel) ?_
   conv=>whnf
   refine Ip eq1 (by omega) (by omega) ?_
   conv=>whnf
   refine nI ?_
   rw[tN]
   conv=>whnf
   refine Ag (by omega) eq2 ?_
   conv=>whnf
   (refine oC (hBe) ?_;conv=>whnf)
   rcases hkd with hk|hk|hk
   ·rw[hk,if_neg (by decide),if_neg (by decide)] at hSv
    rw[hk,if_neg (by decide),if_pos rfl] at up
    (refine oP (hSv) ?_;conv=>whnf)
    refine cX (by decide) ?_
    conv=>whnf
    refine cX (by decide) ?_
    conv=>whnf
    refine cO (by decide) ?_
    conv=>whnf
    repeat' ((first|refine nI ?_|refine aI ?_|refine uI ?_|refine vI ?_|refine dI ?_|refine dR ?_|refine dP ?_|refine au rfl ?_|refine pI _ rfl ?_|refine ak _ rfl ?_|refine tI ?_|refine fI ?_|refine ae (fun _=>?_) (fun _=>?_))<;>conv=>whnf)
    refine⟨i+1,?_,by omega,by dsimp only;omega⟩
    dsimp only
    rw[up]
    exact aH.by_ [(5, .old 5),(6, .old 6)] _ 400 rfl (aa) (aa)
   ·rw[hk,if_pos rfl] at hSv
    rw[hk,if_pos rfl] at up
    (refine oP (hSv) ?_;conv=>whnf)
    refine cX (by decide) ?_
    conv=>whnf
    refine cO (by decide) ?_
    conv=>whnf
    repeat' ((first|refine nI ?_|refine aI ?_|refine uI ?_|refine vI ?_|refine dI ?_|refine dR ?_|refine dP ?_|refine au rfl ?_|refine pI _ rfl ?_|refine ak _ rfl ?_|refine tI ?_|refine fI ?_|refine ae (fun _=>?_) (fun _=>?_))<;>conv=>whnf)
    refine⟨i+1,?_,by omega,by dsimp only;omega⟩
    dsimp only
    rw[up]
    exact aH.by_ [(5, .old 5),(6, .old 6)] _ 400 rfl (aa) (aa)
   ·rw[hk,if_neg (by decide),if_pos rfl] at hSv
    rw[hk,if_neg (by decide),if_neg (by decide)] at up
    (refine oP (hSv) ?_;conv=>whnf)
    refine cX (by decide) ?_
    conv=>whnf
    refine cX (by decide) ?_
    conv=>whnf
    refine cX (by decide) ?_
    conv=>whnf
    repeat' ((first|refine nI ?_|refine aI ?_|refine uI ?_|refine vI ?_|refine dI ?_|refine dR ?_|refine dP ?_|refine au rfl ?_|refine pI _ rfl ?_|refine ak _ rfl ?_|refine tI ?_|refine fI ?_|refine ae (fun _=>?_) (fun _=>?_))<;>conv=>whnf)
    refine⟨i+1,?_,by omega,by dsimp only;omega⟩
    dsimp only
    rw[up]
    exact aH.by_ [(5, .old 5),(6, .old 6)] _ 400 rfl (aa) (aa)
end
end Go.Proofs.YtekmminpfhacpaaGreatDoor
