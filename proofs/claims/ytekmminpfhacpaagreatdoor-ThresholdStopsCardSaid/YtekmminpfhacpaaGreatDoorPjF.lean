import Derived.Test.YtekmminpfhacpaaGreatDoorPA
set_option linter.unusedVariables false
set_option linter.unusedSimpArgs false
namespace Go.Proofs.YtekmminpfhacpaaGreatDoor
set_option maxRecDepth 100000
set_option maxHeartbeats 16000000
noncomputable def lW (s:aC) (c:ay) (xs:List cj) (seg:List Int) (vars:List Vb) (nS nT v i k:Nat):Co:=fun w=>
 if w∈vars.take v then yr s c xs seg nS nT w else if w=vars.getD v cw then yr s c xs seg i k w else BG s w
section
variable {s:aC} {c:ay} {xs:List cj} {seg:List Int} {vars:List Vb} {nS nT v i k:Nat}
theorem lX (hn:vars.Nodup) (hv:v<vars.length):vars.getD v cw∉vars.take v:=by
 intro h
 obtain⟨j,hj,e⟩:=List.mem_take_iff_getElem.1 h
 rw[au cw hv] at e
 have:=(List.getElem_inj hn).1 e
 omega
theorem uj (hn:vars.Nodup) (hv:v<vars.length) (h:vars.getD v cw=kI c i):da (lW s c xs seg vars nS nT v i k) (vars.getD v cw) 1=lW s c xs seg vars nS nT v (i+1) k:=by
 funext w
 unfold da lW
 by_cases e:w=vars.getD v cw
 ·rw[if_pos e,if_neg (by rw[e];exact lX hn hv),if_pos e,if_neg (by rw[e];exact lX hn hv),if_pos e]
  unfold yr
  rw[cS,if_pos (e.trans h)]
  omega
 ·rw[if_neg e,if_neg e,if_neg e]
theorem nn (h:vars.getD v cw≠kI c i):lW s c xs seg vars nS nT v i k=lW s c xs seg vars nS nT v (i+1) k:=by
 funext w
 unfold lW
 by_cases e:w=vars.getD v cw
 ·rw[if_pos e,if_pos e]
  unfold yr
  rw[cS,if_neg (fun e2=>h (e.symm.trans e2)),Int.add_zero]
 ·rw[if_neg e,if_neg e]
theorem uk (hn:vars.Nodup) (hv:v<vars.length) (h:vars.getD v cw=qG c xs seg k):da (lW s c xs seg vars nS nT v i k) (vars.getD v cw) 1=lW s c xs seg vars nS nT v i (k+1):=by
 funext w
 unfold da lW
 by_cases e:w=vars.getD v cw
 ·rw[if_pos e,if_neg (by rw[e];exact lX hn hv),if_pos e,if_neg (by rw[e];exact lX hn hv),if_pos e]
  unfold yr
  rw[cT,if_pos (e.trans h)]
  omega
 ·rw[if_neg e,if_neg e,if_neg e]
theorem lY (h:vars.getD v cw≠qG c xs seg k):lW s c xs seg vars nS nT v i k=lW s c xs seg vars nS nT v i (k+1):=by
 funext w
 unfold lW
 by_cases e:w=vars.getD v cw
 ·rw[if_pos e,if_pos e]
  unfold yr
  rw[cT,if_neg (fun e2=>h (e.symm.trans e2)),Int.add_zero]
 ·rw[if_neg e,if_neg e]
theorem BK (w:Vb):yr s c xs seg 0 0 w=BG s w:=by
 unfold yr
 rw[cS,cT]
 omega
theorem DP (hv:v<vars.length):vars.map (lW s c xs seg vars nS nT v nS nT)=vars.map (lW s c xs seg vars nS nT (v+1) 0 0):=by
 refine List.map_congr_left fun w _=>?_
 have hm:w∈vars.take (v+1)↔w∈vars.take v\/w=vars.getD v cw:=by rw[bj cw hv,List.mem_append,List.mem_singleton]
 unfold lW
 by_cases h1:w∈vars.take v
 ·rw[if_pos h1,if_pos (hm.2 (.inl h1))]
 ·rw[if_neg h1]
  by_cases h2:w=vars.getD v cw
  ·rw[if_pos h2,if_pos (hm.2 (.inr h2))]
  ·rw[if_neg h2,if_neg (fun h=>(hm.1 h).elim h1 h2)]
   split
   ·exact(BK w).symm
   ·rfl
theorem DQ:vars.map (lW s c xs seg vars nS nT 0 0 0)=vars.map (BG s):=by
 refine List.map_congr_left fun w _=>?_
 unfold lW
 rw[if_neg (by simp)]
 split
 ·exact BK w
 ·rfl
theorem Gb:vars.map (lW s c xs seg vars nS nT vars.length 0 0)=vars.map (yr s c xs seg nS nT):=by
 refine List.map_congr_left fun w hw=>?_
 unfold lW
 rw[List.take_length,if_pos hw]
theorem Ir (w:Vb) (hs:0<=s.n/\s.n<=8/\0<=s.t/\s.t<=8/\0<=s.f/\s.f<=8) (h1:nS<=8/\i<=8) (h2:nT<=48/\k<=48):0<=lW s c xs seg vars nS nT v i k w/\lW s c xs seg vars nS nT v i k w<=100:=by
 have hb:0<=BG s w/\BG s w<=8:=by
  unfold BG
  split
  ·omega
  ·split
   ·omega
   ·split<;>omega
 have a1:=F9 c w nS
 have a2:=F9 c w i
 have b1:=F' c xs seg w nT
 have b2:=F' c xs seg w k
 unfold lW
 split
 ·unfold yr;omega
 ·split
  ·unfold yr;omega
  ·omega
end
theorem Gc {p:an} {sch:List Int} {v:Vb} (h:HS p sch v) (hk:v.kind=3\/v.kind=4):v.seg=0:=by
 rcases h with (h|h|h)|⟨_,h,_⟩|⟨h,_⟩
 ·rw[h]
 ·rw[h]
 ·rw[h]
 ·exact h
 ·omega
theorem vP {u:AV} {k:AV->Prop} (h:k u):ge u k:=by rw[bH];exact h
theorem Gd {fr:List AV} {d:Option Tmp} {u:AV} {k:List AV->Prop} (h:k (bZ fr d u)):jo fr d u k:=by rw[dA];exact h
theorem BL {c:Prop} {u u':AV} {K:AV->Prop} (h:c) (e:u=u') (hk:ge u' K):fJ c (ge u K):=by subst e;exact cz h hk
theorem kJ {P:Program} {tt:TT} {all r:List Oper} {fr:List AV} {M:aj} {K:List AV->aj->Prop} {t ty:TypeId} {ps:String} {af:Array Edge} {a b:Operand} {ℓ j:Nat} {v:Int} {rt:TypeId} {l:List Int} {i:TI}
  (ha:c6 fr a= .rel ℓ j 0) (hb:c6 fr b= .int .i64 v) (ht:tt.find t=some i) (hM:M ℓ=some (.row rt (0:Int) ao l)) (hi:i.size=1) (hk:df P tt none all r fr (M.set ℓ (.row rt 0 ao (l.set j v))) K):
  df P tt none all ({dst:=none,op:=.store t a b,type:=ty,pos:=ps,after:=af,guard:=none}::r) fr M K:=by
 simp only[df]
 rw[bA]
 simp only[gv,aM,List.map_cons,List.map_nil,ha,hb,aY,qQ,c5,bf,ht,hi,cW,hM,bZ]
 exact ap v rfl hk
theorem BM (p:an) (q:aE) (s:aC) (r:Rn) (hp:g7 p) (hq:qk q) (hc:yk r.start) (hl:r.steps.length<=140737488355328):
  ab Tryz.prog 19 [.agg (aB p), .agg (cJ q), .agg (bv s), .agg (wU r)] (fun u=>u=Ga (Gp p q s r)):=by
 refine ab.pj ?_
 have he:=Gp.eq_1 p q s r
 generalize Gp p q s r=A at he
 have hL:=Bz p q s hp hq
 refine ab.intro ac ae Tryz.func19 rfl (by decide) ?_;(conv=>whnf)
 refine ak rfl ?_
 conv=>whnf
 refine ak rfl ?_
 conv=>whnf
 refine ak rfl ?_
 conv=>whnf
 refine ak rfl ?_
 conv=>whnf
 by_cases h:lR p q s=0
 rotate_left
 ·rw[if_pos h] at he
  subst he
  (refine oP (hL) ?_;conv=>whnf)
  refine eI h ?_
  conv=>whnf
  exact⟨.inr ⟨rfl,rfl,rfl⟩,rfl⟩
 rw[if_neg (fun y=>y h)] at he
 rw[h] at hL
 obtain⟨h1,ht,hz,hz2⟩:=vN h
 have hv:=(bl h1).vld
 have hR:=DH p s r hp hv ht hc hl
 (refine oP (hL) ?_;conv=>whnf)
 refine fI ?_
 conv=>whnf
 by_cases hvc:VC p s r.start
 rotate_left
 ·rw[if_pos (fun y=>hvc y.1)] at he
  have eT:Eu p s r=pC [] 10:=by unfold Eu;rw[if_neg (fun y=>y hz),if_neg hvc]
  rw[eT] at hR
  unfold pC at hR
  subst he
  (refine oP (hR) ?_;conv=>whnf)
  refine eI (by decide) ?_
  conv=>whnf
  exact⟨.inr ⟨rfl,rfl,rfl⟩,rfl⟩
 have eT:Eu p s r=rp p s [r.start] r.start r.steps:=by unfold Eu;rw[if_neg (fun y=>y hz),if_pos hvc]
 by_cases hro:bN p s r.start r.steps
 rotate_left
 ·rw[if_pos (fun y=>hro y.2.1)] at he
  obtain⟨e,e0,e1⟩:=Bt (acc:=[r.start]) hro
  rw[eT,e1] at hR
  unfold pC at hR
  subst he
  (refine oP (hR) ?_;conv=>whnf)
  refine eI e0 ?_
  conv=>whnf
  exact⟨.inr ⟨rfl,rfl,rfl⟩,rfl⟩
 have rd:=vG (nl hz hvc)
 have hI:=vO p q s r.start rd.big (jE h1) rd.wide hz2
 rw[eT,Bs hro] at hR
 have eR:[r.start]++tr p r.start r.steps=cE p r.start r.steps:=rfl
 rw[eR] at hR
 unfold pC at hR
 by_cases hin:um p q s r.start
 rotate_left
 ·rw[if_pos (fun y=>hin y.2.2)] at he
  rw[decide_eq_false hin] at hI
  subst he
  (refine oP (hR) ?_;conv=>whnf)
  refine fI ?_
  conv=>whnf
  (refine oP (hI) ?_;conv=>whnf)
  exact⟨.inr ⟨rfl,rfl,rfl⟩,rfl⟩
 have hk:=Ev h ⟨hvc,hro,hin⟩
 rw[if_neg (fun y=>y ⟨hvc,hro,hin⟩)] at he
 rw[decide_eq_true hin] at hI
 (refine oP (hR) ?_;conv=>whnf)
 refine fI ?_
 conv=>whnf
 (refine oP (hI) ?_;conv=>whnf)
 have hlt:=fm p r.start r.steps
 have hrdy:=i6 rd hro
 have hlen:=hk.len
 have hthr:=(bk hv).thr
 have hsch:=hk.sch
 have hnd:=oI h1 (pD p s r).1
 have hvl:=oJ h1 hsch
 have hkv:∀v∈bI p q (pD p s r).1,HS p (pD p s r).1 v:=fun v hv=>Am h1 hv
 have hseg:=hk.seg
 have hsl:=dF hsch
 have hsta:=hk.sta
 have hvar:=vv p q hp hq h1 (pD p s r).1 hsch
 have hgl:∀(l:List ay) (a b:List Int),a.Nodup->(∀x∈a,0<=x/\x<((ar p.rules).length:Int))->a.length<=3:=fun l a b h1 h2=>by
  have:=jX h1 h2
  omega
 refine aF.loopF ac ae (fun z:Nat×List Int×List Int=>z.1<=r.steps.length+1/\z.2.2.length=z.1/\(z.2.1.Nodup/\∀x∈z.2.1,0<=x/\x<((ar p.rules).length:Int))/\pD p s r=j' p s ((cE p r.start r.steps).drop z.1) z.2.1 z.2.2) (fun z=>[(16, .int .i64 (z.1:Int)),(14, .row 1000 z.2.1.length 1),(15, .row 1001 z.2.2.length 1)]) (fun z=>[(1000, .row 3 0 ao z.2.1),(1001, .row 3 0 ao z.2.2)]) (fun z=>r.steps.length+1-z.1) (0,[],[]) ⟨Nat.zero_le _,rfl,⟨by simp,fun x hx=>by cases hx⟩,rfl⟩ ?_;conv=>whnf
 refine⟨aR.by_ [(1000, .nil 1),(1001, .nil 1)] _ 400 rfl (aa) (aa),?_⟩
 rintro⟨k,sc,sg⟩ ⟨k1,k2,⟨k3,k4⟩,k5⟩
 dsimp only at k1 k2 k3 k4 k5
 have hs3:=hgl [] sc sg k3 k4
 conv=>whnf
 refine ag ?_ ?_<;>(intro g1;conv=>whnf)
 ·have hkl:k<(cE p r.start r.steps).length:=by omega
  have hrk:=hrdy k (by omega)
  rw[List.drop_eq_getElem_cons hkl,<-au aX hkl] at k5
  have hU:=yl p s ((cE p r.start r.steps).getD k aX) hp hrk
  have hUl:=pc p s ((cE p r.start r.steps).getD k aX) (ar p.rules).length
  have hUm:∀x∈cq p s ((cE p r.start r.steps).getD k aX) (ar p.rules).length,0<=x/\x<((ar p.rules).length:Int):=fun x hx=>by
   obtain⟨i,hi,rfl,_⟩:=(lP p s _).1 hx
   omega
  have k6:pD p s r=j' p s ((cE p r.start r.steps).drop (k+1)) (cD sc (cq p s ((cE p r.start r.steps).getD k aX) (ar p.rules).length)) (sg++[((cD sc (cq p s ((cE p r.start r.steps).getD k aX) (ar p.rules).length)).length:Int)]):=k5
  clear k5
  generalize cq p s ((cE p r.start r.steps).getD k aX) (ar p.rules).length=now at*
  refine dI ?_
  conv=>whnf
  refine nI ?_
  rw[tN]
  conv=>whnf
  (refine oC (hU) ?_;conv=>whnf)
  refine aF.loopF ac ae (fun y:Nat×List Int=>y.1<=now.length/\(y.2.Nodup/\∀x∈y.2,0<=x/\x<((ar p.rules).length:Int))/\cD sc now=cD y.2 (now.drop y.1)) (fun y=>[(18, .int .i64 (y.1:Int)),(14, .row 1000 y.2.length 1)]) (fun y=>[(1000, .row 3 0 ao y.2),(1001, .row 3 0 ao sg)]) (fun y=>now.length-y.1) (0,sc) ⟨Nat.zero_le _,⟨k3,k4⟩,rfl⟩ ?_;conv=>whnf
  refine⟨aR.by_ [(1000, .old 1000),(1001, .old 1001)] _ 400 rfl (aa) (aa),?_⟩
  rintro⟨m,sd⟩ ⟨m1,⟨m2,m3⟩,m4⟩
  dsimp only at m1 m2 m3 m4
  have hd3:=hgl [] sd sg m2 m3
  conv=>whnf
  refine ag ?_ ?_<;>(intro g2;conv=>whnf)
  ·have hml:m<now.length:=by omega
   refine nI ?_
   rw[tN]
   conv=>whnf
   have hgm:=hUm _ (bi (0:Int) hml)
   rw[List.drop_eq_getElem_cons hml,<-au 0 hml] at m4
   have hC:=Fr sd (now.getD m 0) (by omega)
   by_cases hg:now.getD m 0∈sd
   ·rw[decide_eq_true hg] at hC
    rw[cD,if_pos hg] at m4
    (refine am.borrow (n:=5) (hC) rfl (by rintro _ rfl;rfl) ?_;rintro _ rfl;conv=>whnf)
    repeat' ((first|refine nI ?_|refine aI ?_|refine uI ?_|refine vI ?_|refine dI ?_|refine dR ?_|refine dP ?_|refine ak rfl ?_|refine pI _ rfl ?_|refine ap _ rfl ?_|refine tI ?_|refine fI ?_|refine ag (fun _=>?_) (fun _=>?_))<;>conv=>whnf)
    exact⟨(m+1,sd),aR.by_ [(1000, .old 1000),(1001, .old 1001)] _ 400 rfl (aa) (aa),⟨by dsimp only;omega,⟨m2,m3⟩,m4⟩,by dsimp only;omega⟩
   ·rw[decide_eq_false hg] at hC
    rw[cD,if_neg hg] at m4
    (refine am.borrow (n:=5) (hC) rfl (by rintro _ rfl;rfl) ?_;rintro _ rfl;conv=>whnf)
    refine nI ?_
    rw[tN]
    conv=>whnf
    generalize now.getD m 0=g at*
    refine bQ [g] rfl lI ?_
    conv=>whnf
    repeat' ((first|refine nI ?_|refine aI ?_|refine uI ?_|refine vI ?_|refine dI ?_|refine dR ?_|refine dP ?_|refine ak rfl ?_|refine pI _ rfl ?_|refine ap _ rfl ?_|refine tI ?_|refine fI ?_|refine ag (fun _=>?_) (fun _=>?_))<;>conv=>whnf)
    refine⟨(m+1,sd++[g]),aR.by_ [(1000, .old 82),(1001, .old 1001)] _ 400 rfl (aa) (aa),⟨by dsimp only;omega,⟨?_,fun x hx=>?_⟩,m4⟩,by dsimp only;omega⟩
    ·dsimp only
     rw[List.nodup_append]
     refine⟨m2,by simp,fun a ha b hb e=>?_⟩
     rw[List.mem_singleton] at hb
     subst hb;subst e
     exact hg ha
    ·rcases List.mem_append.1 hx with hx|hx
     ·exact m3 x hx
     ·rw[List.mem_singleton] at hx
      subst hx
      exact hgm
  ·obtain rfl:m=now.length:=by omega
   rw[List.drop_length,cD] at m4
   rw[m4] at k6
   refine bQ [(sd.length:Int)] rfl lI ?_
   conv=>whnf
   refine aI ?_
   conv=>whnf
   exact⟨(k+1,sd,sg++[(sd.length:Int)]),aR.by_ [(1000, .old 1000),(1001, .old 87)] _ 400 rfl (aa) (aa),⟨by dsimp only;omega,by dsimp only;rw[List.length_append,List.length_singleton];omega,⟨m2,m3⟩,k6⟩,by dsimp only;omega⟩
 ·obtain rfl:k=r.steps.length+1:=by omega
  rw[List.drop_of_length_le (by omega),j'] at k5
  have hbr:=BJ p q sc s
  rw[k5] at he hsch hnd hvl hkv hseg hsl hvar
  dsimp only at he hsch hnd hvl hkv hseg hsl hvar
  have hv3:3<=(bI p q sc).length:=by unfold bI;simp only[List.length_append,List.length_cons,List.length_nil];omega
  have hsz:=rd.sz
  have hst2:=rd.adm.1
  unfold px at hst2
  generalize bI p q sc=vars at*
  refine am.hand 1000 rfl ?_
  refine am.of_pure (n:=5) hvar rfl ?_
  rintro _ rfl
  conv=>whnf
  refine DY 0 ao 0 rfl (by dsimp only;omega) ?_
  rw[tN]
  conv=>whnf
  refine BL (u':=.rel 94 0 0) (by omega) rfl ?_
  refine vP ?_
  refine Gd ?_
  refine kJ (v:=s.n) (l:=List.replicate vars.length 0) rfl rfl rfl rfl rfl ?_
  conv=>whnf
  refine BL (u':=.rel 94 1 0) (by omega) rfl ?_
  refine vP ?_
  refine Gd ?_
  refine kJ (v:=s.t) (l:=(List.replicate vars.length 0).set 0 s.n) rfl rfl rfl rfl rfl ?_
  conv=>whnf
  refine BL (u':=.rel 94 2 0) (by omega) rfl ?_
  refine vP ?_
  refine Gd ?_
  refine kJ (v:=s.f) (l:=((List.replicate vars.length 0).set 0 s.n).set 1 s.t) rfl rfl rfl rfl rfl ?_
  conv=>whnf
  have hdb:=fun(v i k:Nat) (hi:i<=8) (hk:k<=48) (w:Vb)=>Ir (s:=s) (c:=r.start) (xs:=r.steps) (seg:=sg) (vars:=vars) (nS:=r.start.states.length) (nT:=r.steps.length) (v:=v) (i:=i) (k:=k) w (by omega) ⟨by omega,hi⟩ ⟨by omega,hk⟩
  have hadd:=fun(co:Co) (m:Nat) (hm:m<vars.length)=>wC co (vars:=vars) (m:=m) 1 hnd hm
  have hget:=fun(co:Co) (m:Nat) (hm:m<vars.length)=>rF co (vars:=vars) (m:=m) hm
  refine aF.loopF ac ae (fun v:Nat=>v<=vars.length) (fun v=>[(21, .int .i64 (v:Int))]) (fun v=>[(1000, .gone (0:Int) ao sc),(1001, .row 3 0 ao sg),(94, .row 3 0 ao (vars.map (lW s r.start r.steps sg vars r.start.states.length r.steps.length v 0 0)))]) (fun v=>vars.length-v) 0 (Nat.zero_le _) ?_;conv=>whnf
  refine⟨by rw[DQ,<-hbr];exact aR.by_ [(1000, .old 1000),(1001, .old 1001),(94, .old 94)] _ 400 rfl (aa) (aa),?_⟩
  rintro v hvv
  conv=>whnf
  refine ag ?_ ?_<;>(intro g2;conv=>whnf)
  rotate_left
  ·obtain rfl:v=vars.length:=by omega
   rw[Gb]
   subst he
   exact⟨.inl rfl,rfl⟩
  have hv2:v<vars.length:=by omega
  have hkw:=hkv _ (bi cw hv2)
  have hvs:=Gc hkw
  refine aF.loopF ac ae (fun i:Nat=>i<=r.start.states.length) (fun i=>[(22, .int .i64 (i:Int))]) (fun i=>[(1000, .gone (0:Int) ao sc),(1001, .row 3 0 ao sg),(94, .row 3 0 ao (vars.map (lW s r.start r.steps sg vars r.start.states.length r.steps.length v i 0)))]) (fun i=>r.start.states.length-i) 0 (Nat.zero_le _) ?_;conv=>whnf
  refine⟨aR.by_ [(1000, .old 1000),(1001, .old 1001),(94, .old 94)] _ 400 rfl (aa) (aa),?_⟩
  rintro i hi
  conv=>whnf
  refine ag ?_ ?_<;>(intro g3;conv=>whnf)
  rotate_left
  ·obtain rfl:i=r.start.states.length:=by omega
   refine aF.loopF ac ae (fun k:Nat=>k<=r.steps.length) (fun k=>[(23, .int .i64 (k:Int))]) (fun k=>[(1000, .gone (0:Int) ao sc),(1001, .row 3 0 ao sg),(94, .row 3 0 ao (vars.map (lW s r.start r.steps sg vars r.start.states.length r.steps.length v r.start.states.length k)))]) (fun k=>r.steps.length-k) 0 (Nat.zero_le _) ?_;conv=>whnf
   refine⟨aR.by_ [(1000, .old 1000),(1001, .old 1001),(94, .old 94)] _ 400 rfl (aa) (aa),?_⟩
   rintro k hk
   conv=>whnf
   refine ag ?_ ?_<;>(intro g4;conv=>whnf)
   rotate_left
   ·obtain rfl:k=r.steps.length:=by omega
    refine aI ?_
    conv=>whnf
    refine⟨v+1,?_,by omega,by dsimp only;omega⟩
    dsimp only
    rw[<-DP hv2]
    exact aR.by_ [(1000, .old 1000),(1001, .old 1001),(94, .old 94)] _ 400 rfl (aa) (aa)
   refine nI ?_
   rw[tN]
   conv=>whnf
   refine dI ?_
   conv=>whnf
   refine nI ?_
   rw[tN]
   conv=>whnf
   refine ag ?_ ?_<;>(intro e1;conv=>whnf)
   rotate_left
   ·as_aux_lemma=>
     have hno:vars.getD v cw≠qG r.start r.steps sg k:=by
      intro e
      have a:=congrArg Vb.kind e
      have b:=congrArg Vb.idx e
      have d:=congrArg Vb.seg e
      unfold qG at a b d
      dsimp only at a b d
      split at a<;>omega
     refine aI ?_
     conv=>whnf
     refine⟨k+1,?_,by omega,by dsimp only;omega⟩
     dsimp only
     rw[<-lY hno]
     exact aR.by_ [(1000, .old 1000),(1001, .old 1001),(94, .old 94)] _ 400 rfl (aa) (aa)
   refine nI ?_
   rw[tN]
   conv=>whnf
   refine nI ?_
   rw[tN]
   conv=>whnf
   refine ag ?_ ?_<;>(intro e6;conv=>whnf)
   rotate_left
   ·as_aux_lemma=>
     have hno:vars.getD v cw≠qG r.start r.steps sg k:=by
      intro e
      have a:=congrArg Vb.kind e
      have b:=congrArg Vb.idx e
      have d:=congrArg Vb.seg e
      unfold qG at a b d
      dsimp only at a b d
      split at a<;>omega
     refine aI ?_
     conv=>whnf
     refine⟨k+1,?_,by omega,by dsimp only;omega⟩
     dsimp only
     rw[<-lY hno]
     exact aR.by_ [(1000, .old 1000),(1001, .old 1001),(94, .old 94)] _ 400 rfl (aa) (aa)
   refine nI ?_
   rw[tN]
   conv=>whnf
   refine ag ?_ ?_<;>(intro e2;conv=>whnf)
   ·refine ag ?_ ?_<;>(intro e3;conv=>whnf)
    ·as_aux_lemma=>
      have hy:vars.getD v cw=qG r.start r.steps sg k:=by
       refine jF ?_ e6 e1
       unfold qG
       dsimp only
       split<;>omega
      have hb:=hdb v r.start.states.length k (by omega) (by omega) (vars.getD v cw)
      refine nI ?_
      rw[tN]
      conv=>whnf
      rw[hget _ v hv2]
      refine aI ?_
      conv=>whnf
      refine nI ?_
      rw[tN]
      conv=>whnf
      refine ap (lW s r.start r.steps sg vars r.start.states.length r.steps.length v r.start.states.length k (vars.getD v cw)+1) rfl ?_
      conv=>whnf
      refine aI ?_
      conv=>whnf
      refine⟨k+1,?_,by omega,by dsimp only;omega⟩
      dsimp only
      rw[<-uk hnd hv2 hy,<-hadd _ v hv2]
      exact aR.by_ [(1000, .old 1000),(1001, .old 1001),(94, .old 94)] _ 400 rfl (aa) (aa)
    ·refine nI ?_
     rw[tN]
     conv=>whnf
     refine fI ?_
     conv=>whnf
     as_aux_lemma=>
      have hno:vars.getD v cw≠qG r.start r.steps sg k:=by
       intro e
       have a:=congrArg Vb.kind e
       have b:=congrArg Vb.idx e
       have d:=congrArg Vb.seg e
       unfold qG at a b d
       dsimp only at a b d
       split at a<;>omega
      refine aI ?_
      conv=>whnf
      refine⟨k+1,?_,by omega,by dsimp only;omega⟩
      dsimp only
      rw[<-lY hno]
      exact aR.by_ [(1000, .old 1000),(1001, .old 1001),(94, .old 94)] _ 400 rfl (aa) (aa)
   ·refine nI ?_
    rw[tN]
    conv=>whnf
    refine ag ?_ ?_<;>(intro e4;conv=>whnf)
    ·refine ag ?_ ?_<;>(intro e5;conv=>whnf)
     ·as_aux_lemma=>
       have hy:vars.getD v cw=qG r.start r.steps sg k:=by
        refine jF ?_ e6 e1
        unfold qG
        dsimp only
        split<;>omega
       have hb:=hdb v r.start.states.length k (by omega) (by omega) (vars.getD v cw)
       refine nI ?_
       rw[tN]
       conv=>whnf
       rw[hget _ v hv2]
       refine aI ?_
       conv=>whnf
       refine nI ?_
       rw[tN]
       conv=>whnf
       refine ap (lW s r.start r.steps sg vars r.start.states.length r.steps.length v r.start.states.length k (vars.getD v cw)+1) rfl ?_
       conv=>whnf
       refine aI ?_
       conv=>whnf
       refine⟨k+1,?_,by omega,by dsimp only;omega⟩
       dsimp only
       rw[<-uk hnd hv2 hy,<-hadd _ v hv2]
       exact aR.by_ [(1000, .old 1000),(1001, .old 1001),(94, .old 94)] _ 400 rfl (aa) (aa)
     ·as_aux_lemma=>
       have hno:vars.getD v cw≠qG r.start r.steps sg k:=by
        intro e
        have a:=congrArg Vb.kind e
        have b:=congrArg Vb.idx e
        have d:=congrArg Vb.seg e
        unfold qG at a b d
        dsimp only at a b d
        split at a<;>omega
       refine aI ?_
       conv=>whnf
       refine⟨k+1,?_,by omega,by dsimp only;omega⟩
       dsimp only
       rw[<-lY hno]
       exact aR.by_ [(1000, .old 1000),(1001, .old 1001),(94, .old 94)] _ 400 rfl (aa) (aa)
    ·as_aux_lemma=>
      have hno:vars.getD v cw≠qG r.start r.steps sg k:=by
       intro e
       have a:=congrArg Vb.kind e
       have b:=congrArg Vb.idx e
       have d:=congrArg Vb.seg e
       unfold qG at a b d
       dsimp only at a b d
       split at a<;>omega
      refine aI ?_
      conv=>whnf
      refine⟨k+1,?_,by omega,by dsimp only;omega⟩
      dsimp only
      rw[<-lY hno]
      exact aR.by_ [(1000, .old 1000),(1001, .old 1001),(94, .old 94)] _ 400 rfl (aa) (aa)
  refine dI ?_
  conv=>whnf
  refine nI ?_
  rw[tN]
  conv=>whnf
  refine nI ?_
  rw[tN]
  conv=>whnf
  refine ag ?_ ?_<;>(intro e1;conv=>whnf)
  rotate_left
  ·as_aux_lemma=>
    have hno:vars.getD v cw≠kI r.start i:=by
     intro e
     have a:=congrArg Vb.kind e
     have b:=congrArg Vb.idx e
     have d:=congrArg Vb.seg e
     unfold kI at a b d
     dsimp only at a b d
     split at a<;>omega
    refine aI ?_
    conv=>whnf
    refine⟨i+1,?_,by omega,by dsimp only;omega⟩
    dsimp only
    rw[<-nn hno]
    exact aR.by_ [(1000, .old 1000),(1001, .old 1001),(94, .old 94)] _ 400 rfl (aa) (aa)
  refine nI ?_
  rw[tN]
  conv=>whnf
  refine ag ?_ ?_<;>(intro e2;conv=>whnf)
  ·refine ag ?_ ?_<;>(intro e3;conv=>whnf)
   ·as_aux_lemma=>
     have hy:vars.getD v cw=kI r.start i:=by
      refine jF ?_ (hvs (by omega)) e1
      unfold kI
      dsimp only
      split<;>omega
     have hb:=hdb v i 0 (by omega) (by omega) (vars.getD v cw)
     refine nI ?_
     rw[tN]
     conv=>whnf
     rw[hget _ v hv2]
     refine aI ?_
     conv=>whnf
     refine nI ?_
     rw[tN]
     conv=>whnf
     refine ap (lW s r.start r.steps sg vars r.start.states.length r.steps.length v i 0 (vars.getD v cw)+1) rfl ?_
     conv=>whnf
     refine aI ?_
     conv=>whnf
     refine⟨i+1,?_,by omega,by dsimp only;omega⟩
     dsimp only
     rw[<-uj hnd hv2 hy,<-hadd _ v hv2]
     exact aR.by_ [(1000, .old 1000),(1001, .old 1001),(94, .old 94)] _ 400 rfl (aa) (aa)
   ·refine nI ?_
    rw[tN]
    conv=>whnf
    refine fI ?_
    conv=>whnf
    as_aux_lemma=>
     have hno:vars.getD v cw≠kI r.start i:=by
      intro e
      have a:=congrArg Vb.kind e
      have b:=congrArg Vb.idx e
      have d:=congrArg Vb.seg e
      unfold kI at a b d
      dsimp only at a b d
      split at a<;>omega
     refine aI ?_
     conv=>whnf
     refine⟨i+1,?_,by omega,by dsimp only;omega⟩
     dsimp only
     rw[<-nn hno]
     exact aR.by_ [(1000, .old 1000),(1001, .old 1001),(94, .old 94)] _ 400 rfl (aa) (aa)
  ·refine nI ?_
   rw[tN]
   conv=>whnf
   refine ag ?_ ?_<;>(intro e4;conv=>whnf)
   ·refine ag ?_ ?_<;>(intro e5;conv=>whnf)
    ·as_aux_lemma=>
      have hy:vars.getD v cw=kI r.start i:=by
       refine jF ?_ (hvs (by omega)) e1
       unfold kI
       dsimp only
       split<;>omega
      have hb:=hdb v i 0 (by omega) (by omega) (vars.getD v cw)
      refine nI ?_
      rw[tN]
      conv=>whnf
      rw[hget _ v hv2]
      refine aI ?_
      conv=>whnf
      refine nI ?_
      rw[tN]
      conv=>whnf
      refine ap (lW s r.start r.steps sg vars r.start.states.length r.steps.length v i 0 (vars.getD v cw)+1) rfl ?_
      conv=>whnf
      refine aI ?_
      conv=>whnf
      refine⟨i+1,?_,by omega,by dsimp only;omega⟩
      dsimp only
      rw[<-uj hnd hv2 hy,<-hadd _ v hv2]
      exact aR.by_ [(1000, .old 1000),(1001, .old 1001),(94, .old 94)] _ 400 rfl (aa) (aa)
    ·as_aux_lemma=>
      have hno:vars.getD v cw≠kI r.start i:=by
       intro e
       have a:=congrArg Vb.kind e
       have b:=congrArg Vb.idx e
       have d:=congrArg Vb.seg e
       unfold kI at a b d
       dsimp only at a b d
       split at a<;>omega
      refine aI ?_
      conv=>whnf
      refine⟨i+1,?_,by omega,by dsimp only;omega⟩
      dsimp only
      rw[<-nn hno]
      exact aR.by_ [(1000, .old 1000),(1001, .old 1001),(94, .old 94)] _ 400 rfl (aa) (aa)
   ·as_aux_lemma=>
     have hno:vars.getD v cw≠kI r.start i:=by
      intro e
      have a:=congrArg Vb.kind e
      have b:=congrArg Vb.idx e
      have d:=congrArg Vb.seg e
      unfold kI at a b d
      dsimp only at a b d
      split at a<;>omega
     refine aI ?_
     conv=>whnf
     refine⟨i+1,?_,by omega,by dsimp only;omega⟩
     dsimp only
     rw[<-nn hno]
     exact aR.by_ [(1000, .old 1000),(1001, .old 1001),(94, .old 94)] _ 400 rfl (aa) (aa)
end Go.Proofs.YtekmminpfhacpaaGreatDoor
