import Derived.Test.YtokjgegkhlkopaaGreatDoorFO
set_option linter.unusedVariables false
set_option linter.unusedSimpArgs false
namespace Go.Proofs.YtokjgegkhlkopaaGreatDoor
set_option maxRecDepth 100000
section
variable {P:Program} {S F:ag} {ρ:aw} {M:ai} {w:World}
def Dn:List Nat->Nat->Bool
 |[],_=>false
 |k::r,ℓ=>match Nat.beq k ℓ with|true=>true|false=>Dn r ℓ
def bS (M:ai) (ls:List Nat):ai:=fun ℓ=>match Dn ls ℓ with|true=>M ℓ|false=>none
def pf (M:ai):Nat->AV->AV
 |0,_=>.top
 |n+1,u=>match bX 5 u with
  |true=>u
  |false=>match u with
   |.ptr ℓ o=>match M ℓ with
    |some (.box _ cs)=>.pd ((cs.map (pf M n)).drop o)
    |_=>.top
   |.row ℓ _ _=>match M ℓ with
    |some (.row _ d enc l)=>.sl d enc l
    |some (.gone d enc l)=>.sl d enc l
    |_=>.top
   |.agg cs=>.agg (cs.map (pf M n))
   |.tup cs=>.tup (cs.map (pf M n))
   |_=>.top
def borD (M:ai):Nat->AV->AV
 |0,u=>u
 |n+1,u=>match bX 5 u with
  |true=>u
  |false=>match u with
   |.ptr ℓ o=>match M ℓ with
    |some (.box _ cs)=>.pd ((cs.map (pf M n)).drop o)
    |_=>.ptr ℓ o
   |.row ℓ k z=>match M ℓ with
    |some (.row _ d enc l)=>.sl d enc l
    |some (.gone d enc l)=>.sl d enc l
    |_=>.row ℓ k z
   |.fn f cs=>.fn f (cs.map (borD M n))
   |.agg cs=>.agg (cs.map (borD M n))
   |.tup cs=>.tup (cs.map (borD M n))
   |u=>u
def gQ (M:ai) (ls:List Nat) (n:Nat):ai:=fun ℓ=>match Dn ls ℓ with
 |true=>match M ℓ with
  |some _=>some .dead
  |none=>none
 |false=>match M ℓ with
  |some (.box t cs)=>some (.box t (cs.map (borD (bS M ls) n)))
  |B=>B
theorem gw {ls:List Nat} {ℓ:Nat} {B:aX} (h:bS M ls ℓ=some B):M ℓ=some B/\Dn ls ℓ=true:=by
 unfold bS at h
 split at h
 ·exact⟨h,by assumption⟩
 ·cases h
theorem m7 {ls:List Nat} {k:Nat} (h:ji ρ (bS M ls) k):ji ρ M k:=by
 obtain⟨ℓ,B,b,h1,h2,h3,h4,h5⟩:=h
 exact⟨ℓ,B,b,(gw h1).1,h2,h3,h4,h5⟩
theorem du (hM:ax S F ρ M w) (ls:List Nat):S.le (bO S ρ (bS M ls) w):=by
 intro k o hk
 unfold bO
 split
 ·rename_i h
  rw[(iu hM (m7 h)).1] at hk;cases hk
 ·exact hk
theorem Ga (hM:ax S F ρ M w) (ls:List Nat):(bO S ρ (bS M ls) w).inW w:=by
 intro k o hk
 unfold bO at hk
 split at hk
 ·exact hk
 ·exact hM.sw k o hk
theorem sE {ls:List Nat} {ℓ:Nat} {B:aX} {b:dU} (h1:bS M ls ℓ=some B) (h2:ρ ℓ=some b) (h3:D6 B=true) (h4:B.live b):bO S ρ (bS M ls) w b.blk=w.heap[b.blk]?:=by
 unfold bO
 rw[if_pos ⟨ℓ,B,b,h1,h2,h3,h4,rfl⟩]
theorem iY.map_of {us:List AV} {vs:List Value} {g:AV->AV} (h:be S ρ vs us) {S':ag} (hg:∀v u,RV S ρ v u->RP S' v (g u)):iY S' vs (us.map g):=
 ⟨by simpa using h.1,fun i u hu=>by
  rw[List.getElem?_map] at hu
  obtain⟨u0,h0,rfl⟩:=Option.map_eq_some_iff.1 hu
  obtain⟨v,e,hr⟩:=h.2 i u0 h0
  exact⟨v,e,hg v u0 hr⟩⟩
theorem be.map_of {us:List AV} {vs:List Value} {g:AV->AV} (h:be S ρ vs us) {S':ag} (hg:∀v u,RV S ρ v u->RV S' ρ v (g u)):be S' ρ vs (us.map g):=
 ⟨by simpa using h.1,fun i u hu=>by
  rw[List.getElem?_map] at hu
  obtain⟨u0,h0,rfl⟩:=Option.map_eq_some_iff.1 hu
  obtain⟨v,e,hr⟩:=h.2 i u0 h0
  exact⟨v,e,hg v u0 hr⟩⟩
theorem sF {us:List AV} {vs:List Value} (h:iY S vs us):∀(j:Nat) u,us[j]? =some u->RP S (vs.getD j undef) u:=fun j u hu=>by
 obtain⟨v,h1,h2⟩:=h.2 j u hu
 have:vs.getD j undef=v:=by simp[List.getD,h1]
 rw[this]
 exact h2
theorem pg (hM:ax S F ρ M w) (ls:List Nat) {ℓ n sz:Nat} {v:Value} (h:RV S ρ v (.row ℓ n sz)) {t:TypeId} {α:Type} {d:α} {enc:α->List AV} {l:List α} (hl:bS M ls ℓ=some (.row t d enc l)):RP (bO S ρ (bS M ls) w) v (.sl d enc l):=by
 obtain⟨b,hb,hn,hs,hz,rfl⟩:=h.row_inv
 obtain⟨b',hb',hlen,hszs,hcase⟩:=hM.blk _ _ (gw hl).1
 rw[hb] at hb';cases hb'
 rcases hcase with ⟨hnil,rfl,hcap⟩|⟨hnil,hcap,vs,hheap,hsize,hcell,hS,hF⟩
 ·have e:b.hdr= .slice none 0 0:=by simp only[dU.hdr,hnil,if_true,hcap];simp at hlen;rw[hlen]
  rw[e]
  exact .sl d enc [] none 0 1 (fun _ _=>.int .i64 0) (by simp) (by simp) (by simp) (fun i j hi=>by simp at hi) (by simp) (fun i a j u hi=>by simp at hi)
 ·have e:b.hdr= .slice (some ⟨b.blk,0,none⟩) l.length b.cap:=by simp only[dU.hdr,hnil,hlen];rfl
  rw[e]
  have hl1:bO S ρ (bS M ls) w b.blk=some (.cells vs t (0,0)):=(sE hl hb rfl hnil).trans hheap
  refine .sl d enc l (some ⟨b.blk,0,none⟩) b.cap b.sz (fun i j=>vs.getD (i*b.sz+j) undef) hcap (fun a ha=>(hszs a ha).2) (fun a ha=>(hszs a ha).1) (fun i j hi hj=>⟨_,rfl,?_⟩) (by simp) (fun i a j u hi hu=>?_)
  ·rw[Addr.add_mk]
   have:i*b.sz+j<vs.size:=by
    rw[hsize]
    have:(i+1)*b.sz<=b.cap*b.sz:=Nat.mul_le_mul_right _ (by omega)
    rw[Nat.add_mul] at this
    omega
   unfold ag.cell
   simp only[hl1]
   simp[this]
  ·obtain⟨v,hv,hvr⟩:=hcell i a j u hi hu
   have:vs.getD (i*b.sz+j) undef=v:=by simp[hv]
   rw[this]
   exact hvr.mono (du hM ls)
theorem sG (hM:ax S F ρ M w) (ls:List Nat) {ℓ n sz:Nat} {v:Value} (h:RV S ρ v (.row ℓ n sz)) {α:Type} {d:α} {enc:α->List AV} {l:List α} (hl:bS M ls ℓ=some (.gone d enc l)):RP (bO S ρ (bS M ls) w) v (.sl d enc l):=by
 obtain⟨b,hb,hn,hs,hz,rfl⟩:=h.row_inv
 obtain⟨b',hb',hlen,hr⟩:=hM.blk _ _ (gw hl).1
 rw[hb] at hb';cases hb'
 exact hr.mono (du hM ls)
theorem uz (hM:ax S F ρ M w) (ls:List Nat) {ℓ o:Nat} {v:Value} (h:RV S ρ v (.ptr ℓ o)) {t:TypeId} {cs:List AV} (hl:bS M ls ℓ=some (.box t cs)) {g:AV->AV} (hg:∀v u,RV S ρ v u->RP (bO S ρ (bS M ls) w) v (g u)):RP (bO S ρ (bS M ls) w) v (.pd ((cs.map g).drop o)):=by
 obtain⟨b,hb,rfl⟩:=h.ptr_inv
 obtain⟨b',hb',vs,hheap,hvs,hS,hF⟩:=hM.blk _ _ (gw hl).1
 rw[hb] at hb';cases hb'
 have hps:=iY.map_of hvs hg
 have hl1:bO S ρ (bS M ls) w b.blk=some (.cells vs t (0,0)):=(sE hl hb rfl trivial).trans hheap
 refine .pd _ _ (fun j=>vs.getD (o+j) undef) (fun j hj=>?_) (fun j u hu=>?_)
 ·rw[Addr.add_mk]
  have hl2:=hps.1
  have:o+j<vs.size:=by simp at hj hl2;omega
  unfold ag.cell
  simp only[hl1]
  simp[this]
 ·rw[List.getElem?_drop] at hu
  have:=sF hps _ u hu
  simpa using this
theorem qo (hM:ax S F ρ M w) (ls:List Nat):∀(n:Nat) (v:Value) (u:AV),RV S ρ v u->RP (bO S ρ (bS M ls) w) v (pf (bS M ls) n u)
 |0,v,_,_=>.top v
 |n+1,v,u,h=>by
  have hle:=du hM ls
  have ih:=qo hM ls n
  cases hp:bX 5 u with
  |true=>
   simp only[pf,hp]
   exact(jI 5 hp h).mono hle
  |false=>
   cases u with
   |ptr ℓ o=>
    simp only[pf,hp]
    split
    ·rename_i t cs hl;exact uz hM ls h hl ih
    ·exact .top v
   |row ℓ k z=>
    simp only[pf,hp]
    split
    ·rename_i hl;exact pg hM ls h hl
    ·rename_i hl;exact sG hM ls h hl
    ·exact .top v
   |agg cs=>
    obtain⟨vs,rfl,hr⟩:=h.agg_inv
    have hq:=iY.map_of hr ih
    simp only[pf,hp]
    exact .agg _ vs (by simpa using hq.1) (fun i=>vs.toList.getD i undef) (fun i hi=>by simp[hi]) (sF hq)
   |tup cs=>
    obtain⟨vs,rfl,hr⟩:=h.tup_inv
    have hq:=iY.map_of hr ih
    simp only[pf,hp]
    exact .tup _ vs (by simpa using hq.1) (fun i=>vs.toList.getD i undef) (fun i hi=>by simp[hi]) (sF hq)
   |_=>
    simp only[pf,hp]
    exact .top v
theorem mq (hM:ax S F ρ M w) (ls:List Nat):∀(n:Nat) (v:Value) (u:AV),RV S ρ v u->RV (bO S ρ (bS M ls) w) ρ v (borD (bS M ls) n u)
 |0,v,_,h=>h.mono (du hM ls) (aw.le_refl _)
 |n+1,v,u,h=>by
  have hk:=h.mono (du hM ls) (aw.le_refl _)
  have ih:=mq hM ls n
  cases hp:bX 5 u with
  |true=>
   simp only[borD,hp]
   exact hk
  |false=>
   cases u with
   |ptr ℓ o=>
    simp only[borD,hp]
    split
    ·rename_i t cs hl;exact .p (uz hM ls h hl (qo hM ls n))
    ·exact hk
   |row ℓ k z=>
    simp only[borD,hp]
    split
    ·rename_i hl;exact .p (pg hM ls h hl)
    ·rename_i hl;exact .p (sG hM ls h hl)
    ·exact hk
   |fn f cs=>
    obtain⟨vs,rfl,hr⟩:=h.fn_inv
    have:=RV.fn_mk f (be.map_of hr ih)
    simpa[borD,hp] using this
   |agg cs=>
    obtain⟨vs,rfl,hr⟩:=h.agg_inv
    have:=RV.agg_mk (be.map_of hr ih)
    simpa[borD,hp] using this
   |tup cs=>
    obtain⟨vs,rfl,hr⟩:=h.tup_inv
    have:=RV.tup_mk (be.map_of hr ih)
    simpa[borD,hp] using this
   |_=>
    simp only[borD,hp]
    exact hk
theorem ax.lendL (hM:ax S F ρ M w) (ls:List Nat) (n:Nat):ax (bO S ρ (bS M ls) w) F ρ (gQ M ls n) w:=by
 have hle:=du hM ls
 have back:∀ℓ B b,gQ M ls n ℓ=some B->ρ ℓ=some b->B.live b->Dn ls ℓ=false/\∃B0,M ℓ=some B0/\B0.live b:=by
  intro ℓ B b h hb hl
  unfold gQ at h
  split at h
  ·split at h
   ·cases h;exact hl.elim
   ·cases h
  ·rename_i hi
   refine⟨hi,?_⟩
   split at h
   ·rename_i t cs hB;exact⟨_,hB,trivial⟩
   ·exact⟨_,h,hl⟩
 have off:∀ℓ B0 b,Dn ls ℓ=false->M ℓ=some B0->ρ ℓ=some b->B0.live b->bO S ρ (bS M ls) w b.blk=S b.blk:=by
  intro ℓ B0 b hi h1 h2 h3
  unfold bO
  rw[if_neg]
  rintro⟨ℓ',B',b',g1,g2,g3,g4,g5⟩
  obtain⟨g1,hin⟩:=gw g1
  exact hM.inj ℓ' ℓ B' B0 b' b g1 h1 g2 h2 g4 h3 (fun e=>by rw[e,hi] at hin;cases hin) g5
 refine⟨Ga hM ls,hM.fw,fun k=>?_,fun ℓ b hb=>?_,fun ℓ B hB=>?_,fun x y B C b c h1 h2 h3 h4 h5 h6 hne=>?_,hM.gl.mono hle⟩
 ·by_cases h:ji ρ (bS M ls) k
  ·exact .inr (iu hM (m7 h)).2.1
  ·have e:bO S ρ (bS M ls) w k=S k:=by unfold bO;rw[if_neg h]
   rw[e];exact hM.sf k
 ·have:=hM.dom ℓ b hb
  unfold gQ
  cases hB:M ℓ with
  |none=>exact absurd hB this
  |some B=>
   cases Dn ls ℓ with
   |true=>simp
   |false=>cases B<;>simp
 ·unfold gQ at hB
  split at hB
  ·split at hB
   ·rename_i B0 hB0
    cases hB
    obtain⟨b,hb,_⟩:=hM.blk _ _ hB0
    exact⟨b,hb,trivial⟩
   ·cases hB
  ·rename_i hi
   split at hB
   ·rename_i t cs hB0
    cases hB
    obtain⟨b,hb,vs,h1,h2,h3,h4⟩:=hM.blk _ _ hB0
    refine⟨b,hb,vs,h1,be.map_of h2 (mq hM ls n),?_,h4⟩
    rw[off ℓ _ b hi hB0 hb trivial];exact h3
   ·obtain⟨b,hb,hr⟩:=hM.blk _ _ hB
    exact⟨b,hb,hr.keep hle (aw.le_refl _) fun hl=>⟨rfl,off ℓ _ b hi hB hb hl⟩⟩
 ·obtain⟨_,B0,k1,k2⟩:=back x B b h1 h3 h5
  obtain⟨_,C0,k3,k4⟩:=back y C c h2 h4 h6
  exact hM.inj x y B0 C0 b c k1 k3 h3 h4 k2 k4 hne
theorem an.lendD {f:FuncId} {args:List AV} {R:AV->ai->Prop} (ls:List Nat) (n:Nat) (h:an P f (args.map (borD (bS M ls) n)) (gQ M ls n) R):an P f args M R:=by
 rw[bT] at h⊢
 refine⟨h.1,fun S F ρ vs w hM hv=>(h.2 _ F ρ vs w (hM.lendL ls n) (be.map_of hv (mq hM ls n))).mono ?_⟩
 rintro e w' ⟨v,u,M',S',ρ',rfl,hR,hle,hr⟩
 exact⟨v,u,M',S',ρ',rfl,hR,ag.le_trans (du hM ls) hle,hr⟩
theorem an.endD {f:FuncId} {args:List AV} {R:AV->ai->Prop} (h:an P f args M fun u M'=>∃ls n,R (borD (bS M' ls) n u) (gQ M' ls n)):an P f args M R:=by
 rw[bT] at h⊢
 refine⟨h.1,fun S F ρ vs w hM hv=>(h.2 S F ρ vs w hM hv).mono ?_⟩
 rintro e w' ⟨v,u,M',S',ρ',rfl,⟨ls,n,hR⟩,hle,hρ,hM',hr,hw⟩
 exact⟨v,_,_,_,ρ',rfl,hR,ag.le_trans hle (du hM' ls),hρ,hM'.lendL ls n,mq hM' ls n v u hr,hw⟩
theorem ae.endD {f:FuncId} {args:List AV} {R:AV->Prop} (h:an P f args (ai.ofL []) fun u M'=>∃ls n,R (pf (bS M' ls) n u)):ae P f args R:=by
 rw[eM]
 rw[bT] at h
 refine⟨h.1,?_⟩
 intro S F vs w hg hs hf hd hv
 refine(h.2 S F (fun _=>none) vs w ⟨hs,hf,hd,by simp,by simp[ai.ofL],by simp,hg⟩ (hv.rv _)).mono ?_
 rintro e w' ⟨v,u,M',S',ρ',rfl,⟨ls,n,hR⟩,hle,_,hM',hr,hw⟩
 have h2:=hM'.lendL ls n
 exact⟨v,_,_,rfl,hR,ag.le_trans hle (du hM' ls),h2.sw,h2.fw,h2.sf,qo hM' ls n v u hr,hw⟩
theorem aM.lendD {D:List Nat} {fr fr':List AV} {M':ai} (ls:List Nat) (n:Nat) (h:aM D (fr.map (borD (bS M ls) n)) (gQ M ls n) fr' M'):aM D fr M fr' M':=by
 rw[fj] at*
 intro S F ρ0 ρ a w h0 h1 hM hF
 obtain⟨S2,ρ2,k1,k2,k3,k4⟩:=h _ F ρ0 ρ a w h0 h1 (hM.lendL ls n) ⟨be.map_of hF.1 (mq hM ls n),hF.2⟩
 exact⟨S2,ρ2,ag.le_trans (du hM ls) k1,k2,k3,k4⟩
theorem an.borD {f:FuncId} {args:List AV} {R:AV->Prop} {K:AV->ai->Prop} (ls:List Nat) (n:Nat) (h:ae P f (args.map (pf (bS M ls) n)) R) (hfl:∀u,R u->Ay u=true) (hk:∀u,R u->K u M):an P f args M K:=by
 refine an.borrowG h (fun S F ρ w vs hM hv=>?_) hfl hk
 have hle:(bO S ρ (bS M ls) w).le (bO S ρ M w):=by
  intro k o hk
  unfold bO at hk⊢
  by_cases h1:ji ρ (bS M ls) k
  ·rw[if_pos h1] at hk;rw[if_pos (m7 h1)];exact hk
  ·rw[if_neg h1] at hk
   by_cases h2:ji ρ M k
   ·rw[(iu hM h2).1] at hk;cases hk
   ·rw[if_neg h2];exact hk
 exact iY.map_of hv fun v u hr=>(qo hM ls n v u hr).mono hle
end
end Go.Proofs.YtokjgegkhlkopaaGreatDoor
