import Derived.Test.YtblcpnmnibcbbaaGreatDoorF1
set_option linter.unusedVariables false
set_option linter.unusedSimpArgs false
namespace Go.Proofs.YtblcpnmnibcbbaaGreatDoor
set_option maxRecDepth 100000
section
variable {P:Program} {S F:ae} {ρ:aw} {M:ah} {w:World}
def Ki:List Nat->Nat->Bool
 |[],_=>false
 |k::r,ℓ=>match Nat.beq k ℓ with|true=>true|false=>Ki r ℓ
def zY (M:ah) (ls:List Nat):ah:=fun ℓ=>match Ki ls ℓ with|true=>M ℓ|false=>none
def J2 (M:ah):Nat->AV->AV
 |0,_=>.top
 |n+1,u=>match b9 5 u with
  |true=>u
  |false=>match u with
   |.ptr ℓ o=>match M ℓ with
    |some (.box _ cs)=>.pd ((cs.map (J2 M n)).drop o)
    |_=>.top
   |.row ℓ _ _=>match M ℓ with
    |some (.row _ d enc l)=>.sl d enc l
    |some (.gone d enc l)=>.sl d enc l
    |_=>.top
   |.agg cs=>.agg (cs.map (J2 M n))
   |.tup cs=>.tup (cs.map (J2 M n))
   |_=>.top
def borD (M:ah):Nat->AV->AV
 |0,u=>u
 |n+1,u=>match b9 5 u with
  |true=>u
  |false=>match u with
   |.ptr ℓ o=>match M ℓ with
    |some (.box _ cs)=>.pd ((cs.map (J2 M n)).drop o)
    |_=>.ptr ℓ o
   |.row ℓ k z=>match M ℓ with
    |some (.row _ d enc l)=>.sl d enc l
    |some (.gone d enc l)=>.sl d enc l
    |_=>.row ℓ k z
   |.fn f cs=>.fn f (cs.map (borD M n))
   |.agg cs=>.agg (cs.map (borD M n))
   |.tup cs=>.tup (cs.map (borD M n))
   |u=>u
def J0 (M:ah) (ls:List Nat) (n:Nat):ah:=fun ℓ=>match Ki ls ℓ with
 |true=>match M ℓ with
  |some _=>some .dead
  |none=>none
 |false=>match M ℓ with
  |some (.box t cs)=>some (.box t (cs.map (borD (zY M ls) n)))
  |B=>B
theorem JX {ls:List Nat} {ℓ:Nat} {B:bj} (h:zY M ls ℓ=some B):M ℓ=some B/\Ki ls ℓ=true:=by
 unfold zY at h
 split at h
 ·exact⟨h,by assumption⟩
 ·cases h
theorem JY {ls:List Nat} {k:Nat} (h:mg ρ (zY M ls) k):mg ρ M k:=by
 obtain⟨ℓ,B,b,h1,h2,h3,h4,h5⟩:=h
 exact⟨ℓ,B,b,(JX h1).1,h2,h3,h4,h5⟩
theorem GN (hM:az S F ρ M w) (ls:List Nat):S.le (e7 S ρ (zY M ls) w):=by
 intro k o hk
 unfold e7
 split
 ·rename_i h
  rw[(nk hM (JY h)).1] at hk;cases hk
 ·exact hk
theorem Ke (hM:az S F ρ M w) (ls:List Nat):(e7 S ρ (zY M ls) w).inW w:=by
 intro k o hk
 unfold e7 at hk
 split at hk
 ·exact hk
 ·exact hM.sw k o hk
theorem J' {ls:List Nat} {ℓ:Nat} {B:bj} {b:dZ} (h1:zY M ls ℓ=some B) (h2:ρ ℓ=some b) (h3:Fc B=true) (h4:B.live b):e7 S ρ (zY M ls) w b.blk=w.heap[b.blk]?:=by
 unfold e7
 rw[if_pos ⟨ℓ,B,b,h1,h2,h3,h4,rfl⟩]
theorem lr.map_of {us:List AV} {vs:List Value} {g:AV->AV} (h:ba S ρ vs us) {S':ae} (hg:∀v u,RV S ρ v u->RP S' v (g u)):lr S' vs (us.map g):=
 ⟨by simpa using h.1,fun i u hu=>by
  rw[List.getElem?_map] at hu
  obtain⟨u0,h0,rfl⟩:=Option.map_eq_some_iff.1 hu
  obtain⟨v,e,hr⟩:=h.2 i u0 h0
  exact⟨v,e,hg v u0 hr⟩⟩
theorem ba.map_of {us:List AV} {vs:List Value} {g:AV->AV} (h:ba S ρ vs us) {S':ae} (hg:∀v u,RV S ρ v u->RV S' ρ v (g u)):ba S' ρ vs (us.map g):=
 ⟨by simpa using h.1,fun i u hu=>by
  rw[List.getElem?_map] at hu
  obtain⟨u0,h0,rfl⟩:=Option.map_eq_some_iff.1 hu
  obtain⟨v,e,hr⟩:=h.2 i u0 h0
  exact⟨v,e,hg v u0 hr⟩⟩
theorem J3 {us:List AV} {vs:List Value} (h:lr S vs us):∀(j:Nat) u,us[j]? =some u->RP S (vs.getD j undef) u:=fun j u hu=>by
 obtain⟨v,h1,h2⟩:=h.2 j u hu
 have:vs.getD j undef=v:=by simp[List.getD,h1]
 rw[this]
 exact h2
theorem J7 (hM:az S F ρ M w) (ls:List Nat) {ℓ n sz:Nat} {v:Value} (h:RV S ρ v (.row ℓ n sz)) {t:TypeId} {α:Type} {d:α} {enc:α->List AV} {l:List α} (hl:zY M ls ℓ=some (.row t d enc l)):RP (e7 S ρ (zY M ls) w) v (.sl d enc l):=by
 obtain⟨b,hb,hn,hs,hz,rfl⟩:=h.row_inv
 obtain⟨b',hb',hlen,hszs,hcase⟩:=hM.blk _ _ (JX hl).1
 rw[hb] at hb';cases hb'
 rcases hcase with ⟨hnil,rfl,hcap⟩|⟨hnil,hcap,vs,hheap,hsize,hcell,hS,hF⟩
 ·have e:b.hdr= .slice none 0 0:=by simp only[dZ.hdr,hnil,if_true,hcap];simp at hlen;rw[hlen]
  rw[e]
  exact .sl d enc [] none 0 1 (fun _ _=>.int .i64 0) (by simp) (by simp) (by simp) (fun i j hi=>by simp at hi) (by simp) (fun i a j u hi=>by simp at hi)
 ·have e:b.hdr= .slice (some ⟨b.blk,0,none⟩) l.length b.cap:=by simp only[dZ.hdr,hnil,hlen];rfl
  rw[e]
  have hl1:e7 S ρ (zY M ls) w b.blk=some (.cells vs t (0,0)):=(J' hl hb rfl hnil).trans hheap
  refine .sl d enc l (some ⟨b.blk,0,none⟩) b.cap b.sz (fun i j=>vs.getD (i*b.sz+j) undef) hcap (fun a ha=>(hszs a ha).2) (fun a ha=>(hszs a ha).1) (fun i j hi hj=>⟨_,rfl,?_⟩) (by simp) (fun i a j u hi hu=>?_)
  ·rw[Addr.add_mk]
   have:i*b.sz+j<vs.size:=by
    rw[hsize]
    have:(i+1)*b.sz<=b.cap*b.sz:=Nat.mul_le_mul_right _ (by omega)
    rw[Nat.add_mul] at this
    omega
   unfold ae.cell
   simp only[hl1]
   simp[this]
  ·obtain⟨v,hv,hvr⟩:=hcell i a j u hi hu
   have:vs.getD (i*b.sz+j) undef=v:=by simp[hv]
   rw[this]
   exact hvr.mono (GN hM ls)
theorem J4 (hM:az S F ρ M w) (ls:List Nat) {ℓ n sz:Nat} {v:Value} (h:RV S ρ v (.row ℓ n sz)) {α:Type} {d:α} {enc:α->List AV} {l:List α} (hl:zY M ls ℓ=some (.gone d enc l)):RP (e7 S ρ (zY M ls) w) v (.sl d enc l):=by
 obtain⟨b,hb,hn,hs,hz,rfl⟩:=h.row_inv
 obtain⟨b',hb',hlen,hr⟩:=hM.blk _ _ (JX hl).1
 rw[hb] at hb';cases hb'
 exact hr.mono (GN hM ls)
theorem J8 (hM:az S F ρ M w) (ls:List Nat) {ℓ o:Nat} {v:Value} (h:RV S ρ v (.ptr ℓ o)) {t:TypeId} {cs:List AV} (hl:zY M ls ℓ=some (.box t cs)) {g:AV->AV} (hg:∀v u,RV S ρ v u->RP (e7 S ρ (zY M ls) w) v (g u)):RP (e7 S ρ (zY M ls) w) v (.pd ((cs.map g).drop o)):=by
 obtain⟨b,hb,rfl⟩:=h.ptr_inv
 obtain⟨b',hb',vs,hheap,hvs,hS,hF⟩:=hM.blk _ _ (JX hl).1
 rw[hb] at hb';cases hb'
 have hps:=lr.map_of hvs hg
 have hl1:e7 S ρ (zY M ls) w b.blk=some (.cells vs t (0,0)):=(J' hl hb rfl trivial).trans hheap
 refine .pd _ _ (fun j=>vs.getD (o+j) undef) (fun j hj=>?_) (fun j u hu=>?_)
 ·rw[Addr.add_mk]
  have hl2:=hps.1
  have:o+j<vs.size:=by simp at hj hl2;omega
  unfold ae.cell
  simp only[hl1]
  simp[this]
 ·rw[List.getElem?_drop] at hu
  have:=J3 hps _ u hu
  simpa using this
theorem J1 (hM:az S F ρ M w) (ls:List Nat):∀(n:Nat) (v:Value) (u:AV),RV S ρ v u->RP (e7 S ρ (zY M ls) w) v (J2 (zY M ls) n u)
 |0,v,_,_=>.top v
 |n+1,v,u,h=>by
  have hle:=GN hM ls
  have ih:=J1 hM ls n
  cases hp:b9 5 u with
  |true=>
   simp only[J2,hp]
   exact(ke 5 hp h).mono hle
  |false=>
   cases u with
   |ptr ℓ o=>
    simp only[J2,hp]
    split
    ·rename_i t cs hl;exact J8 hM ls h hl ih
    ·exact .top v
   |row ℓ k z=>
    simp only[J2,hp]
    split
    ·rename_i hl;exact J7 hM ls h hl
    ·rename_i hl;exact J4 hM ls h hl
    ·exact .top v
   |agg cs=>
    obtain⟨vs,rfl,hr⟩:=h.agg_inv
    have hq:=lr.map_of hr ih
    simp only[J2,hp]
    exact .agg _ vs (by simpa using hq.1) (fun i=>vs.toList.getD i undef) (fun i hi=>by simp[hi]) (J3 hq)
   |tup cs=>
    obtain⟨vs,rfl,hr⟩:=h.tup_inv
    have hq:=lr.map_of hr ih
    simp only[J2,hp]
    exact .tup _ vs (by simpa using hq.1) (fun i=>vs.toList.getD i undef) (fun i hi=>by simp[hi]) (J3 hq)
   |_=>
    simp only[J2,hp]
    exact .top v
theorem JZ (hM:az S F ρ M w) (ls:List Nat):∀(n:Nat) (v:Value) (u:AV),RV S ρ v u->RV (e7 S ρ (zY M ls) w) ρ v (borD (zY M ls) n u)
 |0,v,_,h=>h.mono (GN hM ls) (aw.le_refl _)
 |n+1,v,u,h=>by
  have hk:=h.mono (GN hM ls) (aw.le_refl _)
  have ih:=JZ hM ls n
  cases hp:b9 5 u with
  |true=>
   simp only[borD,hp]
   exact hk
  |false=>
   cases u with
   |ptr ℓ o=>
    simp only[borD,hp]
    split
    ·rename_i t cs hl;exact .p (J8 hM ls h hl (J1 hM ls n))
    ·exact hk
   |row ℓ k z=>
    simp only[borD,hp]
    split
    ·rename_i hl;exact .p (J7 hM ls h hl)
    ·rename_i hl;exact .p (J4 hM ls h hl)
    ·exact hk
   |fn f cs=>
    obtain⟨vs,rfl,hr⟩:=h.fn_inv
    have:=RV.fn_mk f (ba.map_of hr ih)
    simpa[borD,hp] using this
   |agg cs=>
    obtain⟨vs,rfl,hr⟩:=h.agg_inv
    have:=RV.agg_mk (ba.map_of hr ih)
    simpa[borD,hp] using this
   |tup cs=>
    obtain⟨vs,rfl,hr⟩:=h.tup_inv
    have:=RV.tup_mk (ba.map_of hr ih)
    simpa[borD,hp] using this
   |_=>
    simp only[borD,hp]
    exact hk
theorem az.lendL (hM:az S F ρ M w) (ls:List Nat) (n:Nat):az (e7 S ρ (zY M ls) w) F ρ (J0 M ls n) w:=by
 have hle:=GN hM ls
 have back:∀ℓ B b,J0 M ls n ℓ=some B->ρ ℓ=some b->B.live b->Ki ls ℓ=false/\∃B0,M ℓ=some B0/\B0.live b:=by
  intro ℓ B b h hb hl
  unfold J0 at h
  split at h
  ·split at h
   ·cases h;exact hl.elim
   ·cases h
  ·rename_i hi
   refine⟨hi,?_⟩
   split at h
   ·rename_i t cs hB;exact⟨_,hB,trivial⟩
   ·exact⟨_,h,hl⟩
 have off:∀ℓ B0 b,Ki ls ℓ=false->M ℓ=some B0->ρ ℓ=some b->B0.live b->e7 S ρ (zY M ls) w b.blk=S b.blk:=by
  intro ℓ B0 b hi h1 h2 h3
  unfold e7
  rw[if_neg]
  rintro⟨ℓ',B',b',g1,g2,g3,g4,g5⟩
  obtain⟨g1,hin⟩:=JX g1
  exact hM.inj ℓ' ℓ B' B0 b' b g1 h1 g2 h2 g4 h3 (fun e=>by rw[e,hi] at hin;cases hin) g5
 refine⟨Ke hM ls,hM.fw,fun k=>?_,fun ℓ b hb=>?_,fun ℓ B hB=>?_,fun x y B C b c h1 h2 h3 h4 h5 h6 hne=>?_,hM.gl.mono hle⟩
 ·by_cases h:mg ρ (zY M ls) k
  ·exact .inr (nk hM (JY h)).2.1
  ·have e:e7 S ρ (zY M ls) w k=S k:=by unfold e7;rw[if_neg h]
   rw[e];exact hM.sf k
 ·have:=hM.dom ℓ b hb
  unfold J0
  cases hB:M ℓ with
  |none=>exact absurd hB this
  |some B=>
   cases Ki ls ℓ with
   |true=>simp
   |false=>cases B<;>simp
 ·unfold J0 at hB
  split at hB
  ·split at hB
   ·rename_i B0 hB0
    cases hB
    obtain⟨b,hb,_⟩:=hM.blk _ _ hB0
    exact⟨b,hb,trivial⟩
   ·cases hB
  ·rename_i hi
   split at hB
   ·rename_i t cs hB0
    cases hB
    obtain⟨b,hb,vs,h1,h2,h3,h4⟩:=hM.blk _ _ hB0
    refine⟨b,hb,vs,h1,ba.map_of h2 (JZ hM ls n),?_,h4⟩
    rw[off ℓ _ b hi hB0 hb trivial];exact h3
   ·obtain⟨b,hb,hr⟩:=hM.blk _ _ hB
    exact⟨b,hb,hr.keep hle (aw.le_refl _) fun hl=>⟨rfl,off ℓ _ b hi hB hb hl⟩⟩
 ·obtain⟨_,B0,k1,k2⟩:=back x B b h1 h3 h5
  obtain⟨_,C0,k3,k4⟩:=back y C c h2 h4 h6
  exact hM.inj x y B0 C0 b c k1 k3 h3 h4 k2 k4 hne
theorem ar.lendD {f:FuncId} {args:List AV} {R:AV->ah->Prop} (ls:List Nat) (n:Nat) (h:ar P f (args.map (borD (zY M ls) n)) (J0 M ls n) R):ar P f args M R:=by
 rw[bP] at h⊢
 refine⟨h.1,fun S F ρ vs w hM hv=>(h.2 _ F ρ vs w (hM.lendL ls n) (ba.map_of hv (JZ hM ls n))).mono ?_⟩
 rintro e w' ⟨v,u,M',S',ρ',rfl,hR,hle,hr⟩
 exact⟨v,u,M',S',ρ',rfl,hR,ae.le_trans (GN hM ls) hle,hr⟩
theorem ar.endD {f:FuncId} {args:List AV} {R:AV->ah->Prop} (h:ar P f args M fun u M'=>∃ls n,R (borD (zY M' ls) n u) (J0 M' ls n)):ar P f args M R:=by
 rw[bP] at h⊢
 refine⟨h.1,fun S F ρ vs w hM hv=>(h.2 S F ρ vs w hM hv).mono ?_⟩
 rintro e w' ⟨v,u,M',S',ρ',rfl,⟨ls,n,hR⟩,hle,hρ,hM',hr,hw⟩
 exact⟨v,_,_,_,ρ',rfl,hR,ae.le_trans hle (GN hM' ls),hρ,hM'.lendL ls n,JZ hM' ls n v u hr,hw⟩
theorem aa.endD {f:FuncId} {args:List AV} {R:AV->Prop} (h:ar P f args (ah.ofL []) fun u M'=>∃ls n,R (J2 (zY M' ls) n u)):aa P f args R:=by
 rw[fG]
 rw[bP] at h
 refine⟨h.1,?_⟩
 intro S F vs w hg hs hf hd hv
 refine(h.2 S F (fun _=>none) vs w ⟨hs,hf,hd,by simp,by simp[ah.ofL],by simp,hg⟩ (hv.rv _)).mono ?_
 rintro e w' ⟨v,u,M',S',ρ',rfl,⟨ls,n,hR⟩,hle,_,hM',hr,hw⟩
 have h2:=hM'.lendL ls n
 exact⟨v,_,_,rfl,hR,ae.le_trans hle (GN hM' ls),h2.sw,h2.fw,h2.sf,J1 hM' ls n v u hr,hw⟩
theorem bE.lendD {D:List Nat} {fr fr':List AV} {M':ah} (ls:List Nat) (n:Nat) (h:bE D (fr.map (borD (zY M ls) n)) (J0 M ls n) fr' M'):bE D fr M fr' M':=by
 rw[ik] at*
 intro S F ρ0 ρ a w h0 h1 hM hF
 obtain⟨S2,ρ2,k1,k2,k3,k4⟩:=h _ F ρ0 ρ a w h0 h1 (hM.lendL ls n) ⟨ba.map_of hF.1 (JZ hM ls n),hF.2⟩
 exact⟨S2,ρ2,ae.le_trans (GN hM ls) k1,k2,k3,k4⟩
theorem ar.borD {f:FuncId} {args:List AV} {R:AV->Prop} {K:AV->ah->Prop} (ls:List Nat) (n:Nat) (h:aa P f (args.map (J2 (zY M ls) n)) R) (hfl:∀u,R u->AW u=true) (hk:∀u,R u->K u M):ar P f args M K:=by
 refine ar.borrowG h (fun S F ρ w vs hM hv=>?_) hfl hk
 have hle:(e7 S ρ (zY M ls) w).le (e7 S ρ M w):=by
  intro k o hk
  unfold e7 at hk⊢
  by_cases h1:mg ρ (zY M ls) k
  ·rw[if_pos h1] at hk;rw[if_pos (JY h1)];exact hk
  ·rw[if_neg h1] at hk
   by_cases h2:mg ρ M k
   ·rw[(nk hM h2).1] at hk;cases hk
   ·rw[if_neg h2];exact hk
 exact lr.map_of hv fun v u hr=>(J1 hM ls n v u hr).mono hle
variable {tt:TT} {D:List Nat}
theorem aR.seqW {a b:Code} {fr:List AV} {Q:cq} (hx:aR P D a fr M fun e fr' M'=>match e with
  |.normal=>aR P D b fr' M' Q
  |.exit i=>Q (.exit i) fr' M'
  |.ret=>Q .ret fr' M'):aR P D (.seq a b) fr M Q:=by
 rw[cM] at hx⊢
 intro S F ρ0 ρ act w h0 h1 hM hF
 refine wp_seq (wp_mono (hx S F ρ0 ρ act w h0 h1 hM hF) ?_)
 rintro e a' w' ⟨ex,he,f,M',S',ρ',k,k1,k2,k3,k4,k5⟩
 cases e with
 |normal=>
  cases he
  refine wp_mono (cM.1 k S' F ρ0 ρ' a' w' h0 k2 k3 k4) ?_
  rintro e2 a2 w2 ⟨ex2,he2,ha⟩
  exact⟨ex2,he2,ha.trans k1 (aw.le_refl _) k5⟩
 |exit i=>cases he;exact⟨_,rfl,f,M',S',ρ',k,k1,k2,k3,k4,k5⟩
 |ret=>cases he;exact⟨_,rfl,f,M',S',ρ',k,k1,k2,k3,k4,k5⟩
 |goto l=>cases he
 |panic l=>cases he
 |outgrown=>cases he
theorem aR.seqC {a b:Code} {fr:List AV} {Q:cq} (hT:aW P tt=true) (hm:P.follows .mixedOrders=true) (h:cN P tt D a fr M fun e fr' M'=>match e with
  |.normal=>aR P D b fr' M' Q
  |.exit i=>Q (.exit i) fr' M'
  |.ret=>Q .ret fr' M'):aR P D (.seq a b) fr M Q:=aR.seqW (bw hT hm a fr M _ h)
theorem aR.seqS {a b:Code} {fr fr2:List AV} {M2:ah} {Q:cq} (hT:aW P tt=true) (hm:P.follows .mixedOrders=true) (h:cN P tt D a fr M fun e fr' M'=>e= .normal/\bE D fr' M' fr2 M2) (h2:aR P D b fr2 M2 Q):aR P D (.seq a b) fr M Q:=by
 refine aR.seqW ((bw hT hm a fr M _ h).mono ?_)
 rintro e fr' M' ⟨rfl,hs⟩
 exact aR.sub hs h2
theorem ar.introW (hT:aW P tt=true) {f:FuncId} {fn:Func} {c:Code} {args:List AV} (L:List (Nat×bj)) {R:AV->ah->Prop} (hf:P.funcs[f]? =some fn) (hb:fn.body=some c) (hn:(fn.name== "runtime.NumGoroutine")=false)
  (h:oi args (fn.ntmps-args.length) fun fr=>aR P (L.map (·.1)) c fr (ah.ofL L) (DQ tt fn.results.toList R)):ar P f args (ah.ofL L) R:=by
 rw[bP]
 refine⟨gS hf hb hn,fun S F ρ vs w hM hv=>?_⟩
 have hD:gg ρ (L.map (·.1)):=fun ℓ b hb=>by
  have:=hM.dom ℓ b hb
  cases hB:ah.ofL L ℓ with
  |none=>exact absurd hB this
  |some B=>exact List.mem_map_of_mem (f:=(·.1)) (gn hB)
 refine ni (D:=L.map (·.1)) (Q:=DQ tt fn.results.toList R) hf hb h hD hM hv fun e a' w' ha hd=>?_
 obtain⟨fr,M',S',ρ',hk,h1,h2,h3,h4,h5⟩:=ha
 have fin:jS tt fr M' fn.results.toList (fun us=>R (d9 us) M')->∃v,(results fn a'.tmps).run P w'= .ok v w'/\iO S F ρ w R (.returned v) w':=by
  intro hk
  obtain⟨vs',us,hK,hvs,hl,hr⟩:=gr hT h3 h4 _ _ hk
  exact⟨_,dV hr,_,_,M',S',ρ',rfl,hK,h1,h2,h3,gR hvs,h5⟩
 cases e with
 |normal=>exact⟨by simp,fin hk⟩
 |ret=>exact⟨by simp,fin hk⟩
 |exit i=>exact hk.elim
end
end Go.Proofs.YtblcpnmnibcbbaaGreatDoor
