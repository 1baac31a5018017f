import Derived.Test.YtokjgegkhlkopaaGreatDoorG1
import Derived.Laws.BytesArg
set_option linter.unusedVariables false
set_option linter.unusedSimpArgs false
namespace Go.Proofs.YtokjgegkhlkopaaGreatDoor
section
section
variable {S F:ag} {ρ:aw} {M:ai} {w:World}
theorem cu {w:World} {k:Nat} {o:Obj} (h:w.heap[k]? =some o):k<w.heap.size:=by
 rcases Nat.lt_or_ge k w.heap.size with h1|h1
 ·exact h1
 ·rw[Array.getElem?_eq_none h1] at h;cases h
theorem ag.inW_size {S:ag} (h:S.inW w):S w.heap.size=none:=by
 cases hb:S w.heap.size with
 |none=>rfl
 |some o=>have:=cu (h _ _ hb);omega
theorem da.keep {S S' F:ag} {ρ ρ':aw} {w w':World} {b:dU} {B:aX} (h:da S F ρ w b B) (hS:S.le S') (hρ:aw.le ρ ρ')
  (hb:B.live b->w'.heap[b.blk]? =w.heap[b.blk]?/\S' b.blk=S b.blk):da S' F ρ' w' b B:=by
 cases B with
 |box t cells=>
  obtain⟨vs,h1,h2,h3,h4⟩:=h
  obtain⟨e1,e2⟩:=hb trivial
  exact⟨vs,e1.trans h1,h2.mono hS hρ,e2.trans h3,h4⟩
 |row t d enc l=>
  obtain⟨h1,h2,h3⟩:=h
  refine⟨h1,h2,h3.imp id fun⟨hn,hc,vs,h4,h5,h6,h7,h8⟩=>?_⟩
  obtain⟨e1,e2⟩:=hb hn
  exact⟨hn,hc,vs,e1.trans h4,h5,fun i a j u ha hu=>let ⟨v,hv,hr⟩:=h6 i a j u ha hu;⟨v,hv,hr.mono hS⟩,e2.trans h7,h8⟩
 |gone d enc l=>exact⟨h.1,h.2.mono hS⟩
 |iter s pos=>
  obtain⟨e1,e2⟩:=hb trivial
  exact⟨e1.trans h.1,e2.trans h.2.1,h.2.2⟩
 |map ek ev l=>
  obtain⟨es,ck,h1,h2,h3,h4⟩:=h
  obtain⟨e1,e2⟩:=hb trivial
  exact⟨es,ck,e1.trans h1,h2,e2.trans h3,h4⟩
 |obj o=>
  obtain⟨e1,e2⟩:=hb trivial
  exact⟨e1.trans h.1,e2.trans h.2.1,h.2.2⟩
 |hdr t g m=>
  obtain⟨l,hlm,hg,h1,h2,h3⟩:=h
  refine⟨l,hlm,fun i hi=>(hg i hi).mono hS hρ,h1,h2,h3.imp id fun⟨hn,hc,vs,h4,h5,h6,h7,h8⟩=>?_⟩
  obtain⟨e1,e2⟩:=hb hn
  exact⟨hn,hc,vs,e1.trans h4,h5,fun i a j u ha hu=>let ⟨v,hv,hr⟩:=h6 i a j u ha hu;⟨v,hv,hr.mono hS⟩,e2.trans h7,h8⟩
 |dead=>trivial
theorem da.lt {B:aX} {b:dU} (h:da S F ρ w b B) (hl:B.live b):b.blk<w.heap.size:=by
 cases B with
 |box t cells=>obtain⟨vs,h1,_⟩:=h;exact cu h1
 |row t d enc l=>
  obtain⟨_,_,h3⟩:=h
  rcases h3 with ⟨hn,_⟩|⟨_,_,vs,h4,_⟩
  ·simp only[aX.live] at hl;rw[hn] at hl;cases hl
  ·exact cu h4
 |gone d enc l=>exact hl.elim
 |iter s pos=>exact cu h.1
 |map ek ev l=>obtain⟨es,ck,h1,_⟩:=h;exact cu h1
 |obj o=>exact cu h.1
 |hdr t g m=>
  obtain⟨_,_,_,_,_,h3⟩:=h
  rcases h3 with ⟨hn,_⟩|⟨_,_,vs,h4,_⟩
  ·simp only[aX.live] at hl;rw[hn] at hl;cases hl
  ·exact cu h4
 |dead=>exact hl.elim
theorem da.off {B:aX} {b:dU} (h:da S F ρ w b B) (hl:B.live b):S b.blk=none/\F b.blk=none:=by
 cases B with
 |box t cells=>obtain⟨vs,_,_,h1,h2⟩:=h;exact⟨h1,h2⟩
 |row t d enc l=>
  obtain⟨_,_,h3⟩:=h
  rcases h3 with ⟨hn,_⟩|⟨_,_,vs,_,_,_,h7,h8⟩
  ·simp only[aX.live] at hl;rw[hn] at hl;cases hl
  ·exact⟨h7,h8⟩
 |gone d enc l=>exact hl.elim
 |iter s pos=>exact h.2
 |map ek ev l=>obtain⟨es,ck,_,_,h3,h4⟩:=h;exact⟨h3,h4⟩
 |obj o=>exact h.2
 |hdr t g m=>
  obtain⟨_,_,_,_,_,h3⟩:=h
  rcases h3 with ⟨hn,_⟩|⟨_,_,vs,_,_,_,h7,h8⟩
  ·simp only[aX.live] at hl;rw[hn] at hl;cases hl
  ·exact⟨h7,h8⟩
 |dead=>exact hl.elim
def aw.set (ρ:aw) (d:Nat) (b:dU):aw:=fun x=>if x=d then some b else ρ x
theorem aw.set_le {ρ:aw} {d:Nat} (b:dU) (h:ρ d=none):aw.le ρ (aw.set ρ d b):=by
 intro ℓ b' hb
 unfold aw.set
 split
 ·subst_vars;rw[h] at hb;cases hb
 ·exact hb
theorem aw.set_eq (ρ:aw) (d:Nat) (b:dU):aw.set ρ d b d=some b:=by simp[aw.set]
theorem aw.set_ne (ρ:aw) {d x:Nat} (b:dU) (h:x≠d):aw.set ρ d b x=ρ x:=by simp[aw.set,h]
theorem ax.fresh (h:ax S F ρ M w) {d:Nat} (hd:M d=none):ρ d=none:=by
 cases hb:ρ d with
 |none=>rfl
 |some b=>exact absurd hd (h.dom _ _ hb)
theorem io (w:World) (o:Obj) (k:Nat) (h:k<w.heap.size):(w.alloc o).heap[k]? =w.heap[k]?:=RowKit.Below.heap_alloc w o k h
theorem bw (w:World) (o:Obj):(w.alloc o).heap[w.heap.size]? =some o:=by show(w.heap.push o)[w.heap.size]? =_;simp
theorem ag.inW_alloc {S:ag} (h:S.inW w) (o:Obj):S.inW (w.alloc o):=fun b x hb=>by
 have:=h b x hb
 rw[io w o b (cu this)]
 exact this
theorem ce.alloc_cells (w:World) (vs:Array Value) (t:TypeId):ce w (w.alloc (.cells vs t)):=
 ⟨rfl,rfl,rfl,Nat.le_refl _,by show w.heap.size<=(w.heap.push _).size;simp,fun a _=>RowKit.frozen?_alloc_cells w vs t a⟩
theorem ax.allocO (h:ax S F ρ M w) {d:Nat} (hd:M d=none) (o:Obj) (b:dU) (B:aX) (hb:B.live b->b.blk=w.heap.size)
  (hB:da S F (aw.set ρ d b) (w.alloc o) b B):ax S F (aw.set ρ d b) (M.set d B) (w.alloc o):=by
 have hf:=h.fresh hd
 have hle:=aw.set_le b hf
 refine⟨ag.inW_alloc h.sw _,ag.inW_alloc h.fw _,h.sf,fun ℓ b' hb'=>?_,fun ℓ B' hB'=>?_,fun ℓ ℓ' C C' c c' h1 h2 h3 h4 h5 h6 hne=>?_,h.gl⟩
 ·by_cases e:ℓ=d
  ·subst e;rw[ai.set_eq];simp
  ·rw[ai.set_ne _ _ e];rw[aw.set_ne _ _ e] at hb';exact h.dom _ _ hb'
 ·by_cases e:ℓ=d
  ·subst e;rw[ai.set_eq] at hB';cases hB';exact⟨b,aw.set_eq _ _ _,hB⟩
  ·rw[ai.set_ne _ _ e] at hB'
   obtain⟨b',hb',hr⟩:=h.blk _ _ hB'
   exact⟨b',by rw[aw.set_ne _ _ e];exact hb',hr.keep (ag.le_refl _) hle fun hl=>⟨io _ _ _ (hr.lt hl),rfl⟩⟩
 ·have other:∀x C c,x≠d->(M.set d B) x=some C->aw.set ρ d b x=some c->C.live c->c.blk<w.heap.size:=by
   intro x C c hx hC hc hl
   rw[ai.set_ne _ _ hx] at hC
   rw[aw.set_ne _ _ hx] at hc
   obtain⟨c',hc',hr⟩:=h.blk _ _ hC
   rw[hc] at hc';cases hc'
   exact hr.lt hl
  by_cases e:ℓ=d
  ·subst e
   rw[ai.set_eq] at h1;cases h1
   rw[aw.set_eq] at h3;cases h3
   have:=other ℓ' C' c' (fun e=>hne e.symm) h2 h4 h6
   have:=hb h5
   omega
  ·by_cases e':ℓ'=d
   ·subst e'
    rw[ai.set_eq] at h2;cases h2
    rw[aw.set_eq] at h4;cases h4
    have:=other ℓ C c e h1 h3 h5
    have:=hb h6
    omega
   ·rw[ai.set_ne _ _ e] at h1
    rw[ai.set_ne _ _ e'] at h2
    rw[aw.set_ne _ _ e] at h3
    rw[aw.set_ne _ _ e'] at h4
    exact h.inj ℓ ℓ' C C' c c' h1 h2 h3 h4 h5 h6 hne
theorem ax.alloc (h:ax S F ρ M w) {d:Nat} (hd:M d=none) (vs:Array Value) (t:TypeId) (b:dU) (B:aX) (hb:B.live b->b.blk=w.heap.size)
  (hB:da S F (aw.set ρ d b) (w.alloc (.cells vs t)) b B):ax S F (aw.set ρ d b) (M.set d B) (w.alloc (.cells vs t)):=h.allocO hd _ b B hb hB
theorem ce.alloc_iter (w:World) (s:ByteArray) (pos:Nat):ce w (w.alloc (.stringIter s pos)):=
 ⟨rfl,rfl,rfl,Nat.le_refl _,by show w.heap.size<=(w.heap.push _).size;simp,fun a _=>by
  unfold World.frozen?
  by_cases h:a.block=w.heap.size
  ·have e1:(w.alloc (.stringIter s pos)).heap[a.block]? =some (.stringIter s pos):=by rw[h];exact bw _ _
   have e2:w.heap[a.block]? =none:=by rw[h];simp
   rw[e1,e2]
  ·by_cases hl:a.block<w.heap.size
   ·rw[io _ _ _ hl]
   ·have e1:(w.alloc (.stringIter s pos)).heap[a.block]? =none:=Array.getElem?_eq_none (by show(w.heap.push _).size<=_;simp;omega)
    have e2:w.heap[a.block]? =none:=Array.getElem?_eq_none (by omega)
    rw[e1,e2]⟩
theorem ax.add (h:ax S F ρ M w) {d:Nat} (hd:M d=none) (b:dU) (B:aX) (hoth:∀ℓ C c,M ℓ=some C->ρ ℓ=some c->C.live c->B.live b->c.blk≠b.blk)
  (hB:da S F (aw.set ρ d b) w b B):ax S F (aw.set ρ d b) (M.set d B) w:=by
 have hf:=h.fresh hd
 have hle:=aw.set_le b hf
 refine⟨h.sw,h.fw,h.sf,fun ℓ b' hb'=>?_,fun ℓ B' hB'=>?_,fun ℓ ℓ' C C' c c' h1 h2 h3 h4 h5 h6 hne=>?_,h.gl⟩
 ·by_cases e:ℓ=d
  ·subst e;rw[ai.set_eq];simp
  ·rw[ai.set_ne _ _ e];rw[aw.set_ne _ _ e] at hb';exact h.dom _ _ hb'
 ·by_cases e:ℓ=d
  ·subst e;rw[ai.set_eq] at hB';cases hB';exact⟨b,aw.set_eq _ _ _,hB⟩
  ·rw[ai.set_ne _ _ e] at hB'
   obtain⟨b',hb',hr⟩:=h.blk _ _ hB'
   exact⟨b',by rw[aw.set_ne _ _ e];exact hb',hr.keep (ag.le_refl _) hle fun hl=>⟨rfl,rfl⟩⟩
 ·by_cases e:ℓ=d
  ·subst e
   rw[ai.set_eq] at h1;cases h1
   rw[aw.set_eq] at h3;cases h3
   have e':ℓ'≠ℓ:=fun x=>hne x.symm
   rw[ai.set_ne _ _ e'] at h2
   rw[aw.set_ne _ _ e'] at h4
   exact fun x=>hoth _ _ _ h2 h4 h6 h5 x.symm
  ·by_cases e':ℓ'=d
   ·subst e'
    rw[ai.set_eq] at h2;cases h2
    rw[aw.set_eq] at h4;cases h4
    rw[ai.set_ne _ _ e] at h1
    rw[aw.set_ne _ _ e] at h3
    exact hoth _ _ _ h1 h3 h5 h6
   ·rw[ai.set_ne _ _ e] at h1
    rw[ai.set_ne _ _ e'] at h2
    rw[aw.set_ne _ _ e] at h3
    rw[aw.set_ne _ _ e'] at h4
    exact h.inj ℓ ℓ' C C' c c' h1 h2 h3 h4 h5 h6 hne
theorem ax.upd (h:ax S F ρ M w) {ℓ:Nat} {B B':aX} {b:dU} (hl:M ℓ=some B) (hb:ρ ℓ=some b) {w':World}
  (hoth:∀k,(k≠b.blk\/¬B.live b)->w'.heap[k]? =w.heap[k]?) (hlive:B'.live b->B.live b)
  (hB:da S F ρ w' b B'):ax S F ρ (M.set ℓ B') w':=by
 obtain⟨b0,hb0,hr0⟩:=h.blk _ _ hl
 rw[hb] at hb0;cases hb0
 have hfar:∀k o,w.heap[k]? =some o->(B.live b->k≠b.blk)->w'.heap[k]? =some o:=fun k o hk hne=>by
  rw[hoth k (by by_cases hh:B.live b;exact .inl (hne hh);exact .inr hh)];exact hk
 refine⟨fun k o hk=>hfar k o (h.sw k o hk) (fun hL e=>?_),fun k o hk=>hfar k o (h.fw k o hk) (fun hL e=>?_),h.sf,fun x c hc=>?_,fun x C hC=>?_,fun x x' C C' c c' h1 h2 h3 h4 h5 h6 hne=>?_,h.gl⟩
 ·subst e;rw[(hr0.off hL).1] at hk;cases hk
 ·subst e;rw[(hr0.off hL).2] at hk;cases hk
 ·by_cases e:x=ℓ
  ·subst e;rw[ai.set_eq];simp
  ·rw[ai.set_ne _ _ e];exact h.dom _ _ hc
 ·by_cases e:x=ℓ
  ·subst e;rw[ai.set_eq] at hC;cases hC;exact⟨b,hb,hB⟩
  ·rw[ai.set_ne _ _ e] at hC
   obtain⟨c,hc,hr⟩:=h.blk _ _ hC
   refine⟨c,hc,hr.keep (ag.le_refl _) (aw.le_refl _) fun hL=>⟨hoth _ ?_,rfl⟩⟩
   by_cases hh:B.live b
   ·exact .inl (h.inj x ℓ C B c b hC hl hc hb hL hh e)
   ·exact .inr hh
 ·have get:∀y D,(M.set ℓ B') y=some D->∀dd,ρ y=some dd->D.live dd->∃D0,M y=some D0/\D0.live dd:=by
   intro y D hy dd hdd hL
   by_cases e:y=ℓ
   ·subst e;rw[ai.set_eq] at hy;cases hy
    rw[hb] at hdd;cases hdd
    exact⟨B,hl,hlive hL⟩
   ·rw[ai.set_ne _ _ e] at hy;exact⟨D,hy,hL⟩
  obtain⟨D,hD,hDl⟩:=get _ _ h1 _ h3 h5
  obtain⟨D',hD',hDl'⟩:=get _ _ h2 _ h4 h6
  exact h.inj x x' D D' c c' hD hD' h3 h4 hDl hDl' hne
theorem BF {vs:List Value} {j:Nat} {u:AV} (h:(bj vs)[j]? =some u):∃v,vs[j]? =some v/\u= .val v:=by
 unfold bj at h
 rw[List.getElem?_map,Option.map_eq_some_iff] at h
 obtain⟨v,h1,h2⟩:=h
 exact⟨v,h1,h2.symm⟩
theorem ax.hdrVals (h:ax S F ρ M w) {ℓ:Nat} {t:TypeId} {g:Nat->List AV} {m:Nat} (hl:M ℓ=some (.hdr t g m)):∃l:List (List Value),l.length=m/\(∀i,i<m->be S ρ (l.getD i []) (g i))/\ax S F ρ (M.set ℓ (.row t [] bj l)) w:=by
 obtain⟨b,hb,l,hlm,hg,hrow⟩:=h.blk _ _ hl
 exact⟨l,hlm,hg,h.upd hl hb (fun _ _=>rfl) (fun hh=>hh) hrow⟩
theorem ax.valsHdr (h:ax S F ρ M w) {ℓ:Nat} {t:TypeId} {l:List (List Value)} (hl:M ℓ=some (.row t [] bj l)) (g:Nat->List AV) (hg:∀i,i<l.length->be S ρ (l.getD i []) (g i)):ax S F ρ (M.set ℓ (.hdr t g l.length)) w:=by
 obtain⟨b,hb,hrow⟩:=h.blk _ _ hl
 exact h.upd hl hb (fun _ _=>rfl) (fun hh=>hh) ⟨l,rfl,hg,hrow⟩
theorem ax.kill (h:ax S F ρ M w) {ℓ:Nat} {B:aX} (hl:M ℓ=some B):ax S F ρ (M.set ℓ .dead) w:=by
 obtain⟨b,hb,_⟩:=h.blk _ _ hl
 exact h.upd hl hb (fun _ _=>rfl) (fun hh=>hh.elim) trivial
theorem ax.leak (h:ax S F ρ M w) {ℓ:Nat} {t:TypeId} {α:Type} {d:α} {enc:α->List AV} {l:List α} (hl:M ℓ=some (.row t d enc l)):
  ∃S' b,ag.le S S'/\ρ ℓ=some b/\ax S' F ρ (M.set ℓ (.gone d enc l)) w/\RP S' b.hdr (.sl d enc l):=by
 obtain⟨b,hb,hlen,hszs,hcase⟩:=h.blk _ _ hl
 rcases hcase with ⟨hn,rfl,hcap⟩|⟨hn,hcap,vs,hheap,hsize,hcell,hS,hF⟩
 ·have hr:RP S b.hdr (.sl d enc []):=by
   have hlen':b.len=0:=by simpa using hlen
   have e:b.hdr= .slice none ([]:List α).length 0:=by simp[dU.hdr,hn,hlen',hcap]
   rw[e]
   exact .sl d enc [] none 0 0 (fun _ _=>undef) (by simp) (by simp) (by simp) (by simp) (by simp) (by simp)
  exact⟨S,b,ag.le_refl _,hb,h.upd hl hb (fun _ _=>rfl) (fun hh=>hh.elim) ⟨hlen,hr⟩,hr⟩
 ·let S':ag:=fun k=>if k=b.blk then some (.cells vs t (0,0)) else S k
  have hle:ag.le S S':=fun k o hk=>by
   show(if k=b.blk then _ else _)=_
   split
   ·subst_vars;rw[hS] at hk;cases hk
   ·exact hk
  have hr:RP S' b.hdr (.sl d enc l):=by
   have e:b.hdr= .slice (some ⟨b.blk,0,none⟩) l.length b.cap:=by simp[dU.hdr,hn,hlen]
   rw[e]
   refine .sl d enc l _ _ b.sz (fun i j=>(vs[i*b.sz+j]?).getD undef) hcap (fun a ha=>(hszs a ha).2) (fun a ha=>(hszs a ha).1) (fun i j hi hj=>⟨_,rfl,?_⟩) (by simp) (fun i a j u ha hu=>?_)
   ·rw[Addr.add_mk]
    have:i*b.sz+j<vs.size:=by
     rw[hsize]
     have:(i+1)*b.sz<=b.cap*b.sz:=Nat.mul_le_mul_right _ (by omega)
     rw[Nat.add_mul] at this
     omega
    simp[ag.cell,S',this]
   ·obtain⟨v,hv,hvr⟩:=hcell i a j u ha hu
    rw[hv]
    exact hvr.mono hle
  refine⟨S',b,hle,hb,?_,hr⟩
  have hw':=h.upd (B':= .dead) hl hb (w':=w) (fun _ _=>rfl) (fun hh=>hh.elim) trivial
  have hS'k:∀k,k≠b.blk->S' k=S k:=fun k hk=>by show(if _ then _ else _)=_;rw[if_neg hk]
  have hS'b:S' b.blk=some (.cells vs t (0,0)):=by show(if _ then _ else _)=_;rw[if_pos rfl]
  refine⟨fun k o hk=>?_,h.fw,fun k=>?_,fun x c hc=>?_,fun x C hC=>?_,fun x x' C C' c c' h1 h2 h3 h4 h5 h6 hne=>?_,h.gl.mono hle⟩
  ·by_cases e:k=b.blk
   ·subst e;rw[hS'b] at hk;cases hk;exact hheap
   ·rw[hS'k _ e] at hk;exact h.sw _ _ hk
  ·by_cases e:k=b.blk
   ·subst e;exact .inr hF
   ·rw[hS'k _ e];exact h.sf k
  ·by_cases e:x=ℓ
   ·subst e;rw[ai.set_eq];simp
   ·rw[ai.set_ne _ _ e];exact h.dom _ _ hc
  ·by_cases e:x=ℓ
   ·subst e;rw[ai.set_eq] at hC;cases hC;exact⟨b,hb,hlen,hr⟩
   ·rw[ai.set_ne _ _ e] at hC
    obtain⟨c,hc,hrC⟩:=h.blk _ _ hC
    exact⟨c,hc,hrC.keep hle (aw.le_refl _) fun hL=>⟨rfl,hS'k _ (h.inj x ℓ C _ c b hC hl hc hb hL (by exact hn) e)⟩⟩
  ·have get:∀y D,(M.set ℓ (.gone d enc l)) y=some D->∀dd,D.live dd->M y=some D:=by
    intro y D hy dd hL
    by_cases e:y=ℓ
    ·subst e;rw[ai.set_eq] at hy;cases hy;exact hL.elim
    ·rw[ai.set_ne _ _ e] at hy;exact hy
   exact h.inj x x' C C' c c' (get _ _ h1 _ h5) (get _ _ h2 _ h6) h3 h4 h5 h6 hne
theorem ax.leakBox (h:ax S F ρ M w) {ℓ:Nat} {t:TypeId} {cells:List AV} (hl:M ℓ=some (.box t cells)) (hp:∀(j:Nat) u v,cells[j]? =some u->RV S ρ v u->RP S v u):
  ∃S' b,ag.le S S'/\ρ ℓ=some b/\ax S' F ρ (M.set ℓ .dead) w/\RP S' (.pointer (some ⟨b.blk,0,none⟩)) (.pd cells):=by
 obtain⟨b,hb,vs,hheap,hcell,hS,hF⟩:=h.blk _ _ hl
 let S':ag:=fun k=>if k=b.blk then some (.cells vs t (0,0)) else S k
 have hle:ag.le S S':=fun k o hk=>by
  show(if k=b.blk then _ else _)=_
  split
  ·subst_vars;rw[hS] at hk;cases hk
  ·exact hk
 have hr:RP S' (.pointer (some ⟨b.blk,0,none⟩)) (.pd cells):=by
  refine .pd cells ⟨b.blk,0,none⟩ (fun j=>(vs[j]?).getD undef) (fun j hj=>?_) (fun j u hu=>?_)
  ·rw[Addr.add_mk]
   have hs:vs.size=cells.length:=by have:=hcell.1;simpa using this
   have:j<vs.size:=by omega
   simp[ag.cell,S',this]
  ·obtain⟨v,hv,hvr⟩:=hcell.2 j u hu
   have hv':vs[j]? =some v:=by simpa using hv
   rw[hv']
   exact(hp j u v hu hvr).mono hle
 refine⟨S',b,hle,hb,?_,hr⟩
 have hS'k:∀k,k≠b.blk->S' k=S k:=fun k hk=>by show(if _ then _ else _)=_;rw[if_neg hk]
 have hS'b:S' b.blk=some (.cells vs t (0,0)):=by show(if _ then _ else _)=_;rw[if_pos rfl]
 refine⟨fun k o hk=>?_,h.fw,fun k=>?_,fun x c hc=>?_,fun x C hC=>?_,fun x x' C C' c c' h1 h2 h3 h4 h5 h6 hne=>?_,h.gl.mono hle⟩
 ·by_cases e:k=b.blk
  ·subst e;rw[hS'b] at hk;cases hk;exact hheap
  ·rw[hS'k _ e] at hk;exact h.sw _ _ hk
 ·by_cases e:k=b.blk
  ·subst e;exact .inr hF
  ·rw[hS'k _ e];exact h.sf k
 ·by_cases e:x=ℓ
  ·subst e;rw[ai.set_eq];simp
  ·rw[ai.set_ne _ _ e];exact h.dom _ _ hc
 ·by_cases e:x=ℓ
  ·subst e;rw[ai.set_eq] at hC;cases hC;exact⟨b,hb,trivial⟩
  ·rw[ai.set_ne _ _ e] at hC
   obtain⟨c,hc,hrC⟩:=h.blk _ _ hC
   exact⟨c,hc,hrC.keep hle (aw.le_refl _) fun hL=>⟨rfl,hS'k _ (h.inj x ℓ C _ c b hC hl hc hb hL trivial e)⟩⟩
 ·have get:∀y D,(M.set ℓ .dead) y=some D->∀dd,D.live dd->M y=some D:=by
   intro y D hy dd hL
   by_cases e:y=ℓ
   ·subst e;rw[ai.set_eq] at hy;cases hy;exact hL.elim
   ·rw[ai.set_ne _ _ e] at hy;exact hy
  exact h.inj x x' C C' c c' (get _ _ h1 _ h5) (get _ _ h2 _ h6) h3 h4 h5 h6 hne
theorem ax.drawn (h:ax S F ρ M w) (n:Nat):ax S F ρ M {w with drawn:=n}:=
 ⟨h.sw,h.fw,h.sf,h.dom,fun ℓ B hB=>let ⟨b,hb,hr⟩:=h.blk ℓ B hB;⟨b,hb,hr.keep (ag.le_refl _) (aw.le_refl _) fun _=>⟨rfl,rfl⟩⟩,h.inj,h.gl⟩
theorem ce.setRow {g:Nat} {cur vs:Array Value} {t:TypeId} (hg:w.heap[g]? =some (.cells cur t (0,0))):ce w (w.setRow g vs):=by
 refine⟨rfl,rfl,rfl,Nat.le_refl _,by simp,fun a _=>?_⟩
 unfold World.frozen?
 by_cases h:a.block=g
 ·rw[h,setRow_heap w g cur vs t _ hg,hg]
 ·rw[setRow_other w g a.block vs h]
end
end
section
structure gJ (c:Prop) (k:Prop):Prop where
 out:c/\k
theorem bF {c:Prop} {k:Prop}:gJ c k↔(c/\k):=⟨fun h=>h.out,fun h=>⟨h⟩⟩
structure wu (p:Prop) (i:Decidable p) (k:Bool->Prop):Prop where
 out:k (@decide p i)
theorem iC {p:Prop} {i:Decidable p} {k:Bool->Prop}:wu p i k↔(k (@decide p i)):=⟨fun h=>h.out,fun h=>⟨h⟩⟩
structure kb (c:Prop) (k:IntKind) (n:Int) (K:Int->Prop):Prop where
 out:c/\K (k.wrap n)
theorem dz {c:Prop} {k:IntKind} {n:Int} {K:Int->Prop}:kb c k n K↔(c/\K (k.wrap n)):=⟨fun h=>h.out,fun h=>⟨h⟩⟩
theorem d7 {c k:Prop} (h:c) (h':k):gJ c k:=by rw[bF];exact⟨h,h'⟩
theorem ah {p:Prop} {i:Decidable p} {k:Bool->Prop} (h:p->k true) (h':¬p->k false):wu p i k:=by
 rw[iC]
 by_cases hp:p
 ·rw[decide_eq_true hp];exact h hp
 ·rw[decide_eq_false hp];exact h' hp
theorem dH {p:Prop} {i:Decidable p} {k:Bool->Prop} (hp:p) (h:k true):wu p i k:=ah (fun _=>h) (fun h'=>absurd hp h')
theorem eX {p:Prop} {i:Decidable p} {k:Bool->Prop} (hp:¬p) (h:k false):wu p i k:=ah (fun h'=>absurd h' hp) (fun _=>h)
theorem LJ {p:Prop} {i:Decidable p} {k:Bool->Prop} (h:k (@decide p i)):wu p i k:=by rw[iC];exact h
theorem k8 {n:Int} (h:-9223372036854775808<=n/\n<=9223372036854775807):IntKind.i64.wrap n=n:=IntWalk.i64_in n (by omega)
theorem JC {c:Prop} {n:Int} {K:Int->Prop} (hc:c) (h:-9223372036854775808<=n/\n<=9223372036854775807) (h':K n):kb c .i64 n K:=by
 rw[dz];rw[k8 h];exact⟨hc,h'⟩
theorem DH {n:Int} (h:0<=n/\n<=18446744073709551615):IntKind.u64.wrap n=n:=by
 have e:IntKind.u64.wrap n=n % 18446744073709551616:=by simp[IntKind.wrap,IntKind.signed,IntKind.bits]
 rw[e];omega
theorem GM {n:Int} (h:0<=n/\n<=255):IntKind.u8.wrap n=n:=by
 have e:IntKind.u8.wrap n=n % 256:=by simp[IntKind.wrap,IntKind.signed,IntKind.bits]
 rw[e];omega
theorem Oc {c:Prop} {n:Int} {K:Int->Prop} (hc:c) (h:0<=n/\n<=18446744073709551615) (h':K n):kb c .u64 n K:=by
 rw[dz,DH h];exact⟨hc,h'⟩
theorem Od {c:Prop} {n:Int} {K:Int->Prop} (hc:c) (h:0<=n/\n<=255) (h':K n):kb c .u8 n K:=by
 rw[dz,GM h];exact⟨hc,h'⟩
theorem Ly {c:Prop} {k:IntKind} {n:Int} {K:Int->Prop} (hc:c) (h':K (k.wrap n)):kb c k n K:=by rw[dz];exact⟨hc,h'⟩
def k9:List AV->(List AV->Prop)->Prop
 |[],k=>k []
 |u::us,k=>k9 us fun us'=>k (u::us')
theorem dV:∀(us:List AV) (k:List AV->Prop),k9 us k=k us
 |[],_=>rfl
 |u::us,k=>by rw[k9,dV us]
def mJ:AV->(AV->Prop)->Prop
 | .agg cs,k=>k9 cs fun cs'=>k (.agg cs')
 | .pd cs,k=>k9 cs fun cs'=>k (.pd cs')
 | .tup cs,k=>k9 cs fun cs'=>k (.tup cs')
 |u,k=>k u
theorem aP (u:AV) (k:AV->Prop):mJ u k=k u:=by
 cases u<;>simp[mJ,dV]
def fZ (r:Rs) (K:AV->Prop):Prop:=
 match r with
 | .no=>False
 | .val u=>mJ u K
 | .need c u=>gJ c (mJ u K)
 | .arith c k n=>kb c k n fun m=>K (.int k m)
 | .cmp p i=>wu p i fun b=>K (.bool b)
theorem cM {r:Rs} {K K':AV->Prop} (h:fZ r K) (hk:∀u,K u->K' u):fZ r K':=by
 cases r with
 |no=>exact h
 |val u=>simp only[fZ,aP] at*;exact hk _ h
 |need c u=>simp only[fZ,aP] at*;simp only[bF] at*;exact⟨h.1,hk _ h.2⟩
 |arith c k n=>simp only[fZ] at*;simp only[dz] at*;exact⟨h.1,hk _ h.2⟩
 |cmp p i=>simp only[fZ] at*;simp only[iC] at*;exact hk _ h
theorem gc {r:Rs} {K:AV->Prop} (h:fZ r K):∃u,fZ r (fun x=>x=u)/\K u:=by
 cases r with
 |no=>exact h.elim
 |val u=>simp only[fZ,aP] at*;exact⟨u,rfl,h⟩
 |need c u=>simp only[fZ,aP] at*;simp only[bF] at*;exact⟨u,⟨h.1,rfl⟩,h.2⟩
 |arith c k n=>simp only[fZ] at*;simp only[dz] at*;exact⟨_,⟨h.1,rfl⟩,h.2⟩
 |cmp p i=>simp only[fZ] at*;simp only[iC] at*;exact⟨_,rfl,h⟩
theorem DI {S:ag} {ρ:aw} {P:Program} {w:World} {m:Sem Next} {r:Rs} {K:AV->Prop} (h:fZ r K) (hr:yQ S ρ P w m r):∃v u,m.run P w= .ok (.value v) w/\RV S ρ v u/\K u:=by
 cases r with
 |no=>exact h.elim
 |val u=>simp only[fZ,aP] at h;obtain⟨v,e,hv⟩:=hr;exact⟨v,u,e,hv,h⟩
 |need c u=>simp only[fZ,aP] at h;rw[bF] at h;obtain⟨v,e,hv⟩:=hr h.1;exact⟨v,u,e,hv,h.2⟩
 |arith c k n=>simp only[fZ] at h;rw[dz] at h;exact⟨_,_,hr h.1, .p (.int _ _),h.2⟩
 |cmp p i=>simp only[fZ] at h;rw[iC] at h;exact⟨_,_,hr, .p (.bool _),h⟩
def nf:AV->Bool
 | .int _ _| .bool _| .str _| .nilsl| .sl _ _ _| .pd _=>true
 | .val v=>sR v
 | .fn _ []=>true
 |_=>false
def cg:List AV->Bool
 |[]=>true
 |u::us=>match nf u with|true=>cg us|false=>false
section
variable {S F:ag} {ρ:aw} {M:ai} {w:World}
theorem uQ {u:AV} (h:nc u=true) {v:Value} (hv:RV S ρ v u):v.oneCell'=true:=by
 have key:∀x:Value,sR x=true->x.oneCell'=true:=by intro x hx;cases x<;>simp_all [sR,Value.oneCell']
 cases u with
 |top=>simp[nc] at h
 |agg _=>simp[nc] at h
 |tup _=>simp[nc] at h
 |val x=>rw[hv.val_inv];exact key _ h
 |int k n=>rw[hv.int_inv];rfl
 |bool b=>rw[hv.bool_inv];rfl
 |str b=>rw[hv.str_inv];rfl
 |nilsl=>rw[hv.nilsl_inv];rfl
 |sl d enc l=>obtain⟨b,c,rfl,_⟩:=pS hv.sl_inv;rfl
 |slc d enc l=>obtain⟨b,rfl,_⟩:=hv.slc_inv.slc_form;rfl
 |pd c=>cases hv.pd_inv;rfl
 |fn f c=>obtain⟨vs,rfl,_⟩:=hv.fn_inv;rfl
 |ptr a b=>obtain⟨b,_,rfl⟩:=hv.ptr_inv;rfl
 |row a b c=>obtain⟨b,_,_,_,_,rfl⟩:=hv.row_inv;rfl
 |rel a b c=>obtain⟨b,_,_,rfl⟩:=hv.rel_inv;rfl
 |part a b c d=>obtain⟨b,_,_,_,_,_,_,_,rfl⟩:=hv.part_inv;rfl
 |mp a=>obtain⟨b,_,rfl⟩:=hv.mp_inv;rfl
theorem jF:∀{us:List AV} {vs:List Value},allOne us=true->be S ρ vs us->∀v∈vs,v.oneCell'=true
 |[],vs,_,hv=>by rw[hv.nil_inv];simp
 |u::us,vs,h,hv=>by
  obtain⟨x,xs,rfl,hx,hxs⟩:=hv.cons_inv
  simp only[allOne] at h
  split at h
  ·rename_i ho
   intro v hm
   rcases List.mem_cons.1 hm with rfl|hm
   ·exact uQ ho hx
   ·exact jF h hxs v hm
  ·simp at h
theorem wv {u:AV} (h:nf u=true) {v:Value} (hv:RV S ρ v u):RP S v u/\nc u=true:=by
 cases u with
 |val x=>have:=hv.val_inv;subst this;exact⟨.val _,h⟩
 |int k n=>rw[hv.int_inv];exact⟨.int _ _,rfl⟩
 |bool b=>rw[hv.bool_inv];exact⟨.bool _,rfl⟩
 |str b=>rw[hv.str_inv];exact⟨.str _,rfl⟩
 |nilsl=>rw[hv.nilsl_inv];exact⟨.nilsl,rfl⟩
 |sl d enc l=>exact⟨hv.sl_inv,rfl⟩
 |pd c=>exact⟨hv.pd_inv,rfl⟩
 |fn f c=>
  cases c with
  |cons _ _=>simp[nf] at h
  |nil=>
   obtain⟨vs,rfl,hvs⟩:=hv.fn_inv
   have:vs=#[]:=by have:=hvs.1;simpa using this
   subst this
   exact⟨.fn f [] #[] rfl (fun _=>undef) (by simp) (by simp),rfl⟩
 |_=>simp[nf] at h
theorem fq:∀{us:List AV} {vs:List Value},cg us=true->be S ρ vs us->iY S vs us/\allOne us=true
 |[],vs,_,hv=>by rw[hv.nil_inv];exact⟨iY.nil _,rfl⟩
 |u::us,vs,h,hv=>by
  obtain⟨x,xs,rfl,hx,hxs⟩:=hv.cons_inv
  simp only[cg] at h
  split at h
  ·rename_i ho
   obtain⟨h1,h2⟩:=wv ho hx
   obtain⟨h3,h4⟩:=fq h hxs
   exact⟨iY.cons h1 h3,by simp only[allOne,h2,h4]⟩
  ·simp at h
def dJ:List AV->ai->(List AV->ai->Prop)->Prop
 |[],M,K=>K [] M
 |u::us,M,K=>match u with
  | .row ℓ _ _=>match M ℓ with
   |some (.row _ d enc l)=>dJ us (M.set ℓ (.gone d enc l)) fun us' M'=>K (.sl d enc l::us') M'
   |some (.gone d enc l)=>dJ us M fun us' M'=>K (.sl d enc l::us') M'
   |_=>False
  |u=>dJ us M fun us' M'=>K (u::us') M'
theorem gK:∀(us:List AV) (vs:List Value) (S:ag) (M:ai) (K:List AV->ai->Prop),dJ us M K->be S ρ vs us->ax S F ρ M w->
  ∃us' M' S',K us' M'/\S.le S'/\be S' ρ vs us'/\ax S' F ρ M' w/\(∀x B,M x=some B->∃B',M' x=some B')
 |[],vs,S,M,K,h,hv,hM=>⟨[],M,S,h,ag.le_refl _,hv,hM,fun x B hx=>⟨B,hx⟩⟩
 |u::us,vs,S,M,K,h,hv,hM=>by
  obtain⟨x,xs,rfl,hx,hxs⟩:=hv.cons_inv
  simp only[dJ] at h
  split at h
  ·rename_i ℓ n sz
   split at h
   ·rename_i t α d enc l hl
    obtain⟨S1,b,hle,hb,hM1,hr⟩:=hM.leak hl
    obtain⟨b',hb',_,_,_,rfl⟩:=hx.row_inv
    rw[hb] at hb';cases hb'
    obtain⟨us',M',S',hK,hle',hvs',hM',hdom⟩:=gK us xs S1 _ _ h (hxs.mono hle (aw.le_refl _)) hM1
    refine⟨_,M',S',hK,ag.le_trans hle hle',be.cons (.p (hr.mono hle')) hvs',hM',fun y B hy=>?_⟩
    by_cases e:y=ℓ
    ·subst e;exact hdom _ _ (ai.set_eq _ _ _)
    ·exact hdom y B (by rw[ai.set_ne _ _ e];exact hy)
   ·rename_i α d enc l hl
    obtain⟨b,hb,_,hr⟩:=hM.blk _ _ hl
    obtain⟨b',hb',_,_,_,rfl⟩:=hx.row_inv
    rw[hb] at hb';cases hb'
    obtain⟨us',M',S',hK,hle',hvs',hM',hdom⟩:=gK us xs S _ _ h hxs hM
    exact⟨_,M',S',hK,hle',be.cons (.p (hr.mono hle')) hvs',hM',hdom⟩
   ·exact h.elim
  ·obtain⟨us',M',S',hK,hle',hvs',hM',hdom⟩:=gK us xs S _ _ h hxs hM
   exact⟨_,M',S',hK,hle',be.cons (hx.mono hle' (aw.le_refl _)) hvs',hM',hdom⟩
end
structure pT {α:Type} (enc:α->List AV) (a:α) (o:Nat) (cs:List AV) (K:α->Prop):Prop where
 out:∃a',enc a'=fp (enc a) o cs/\K a'
theorem fv {α:Type} {enc:α->List AV} {a:α} {o:Nat} {cs:List AV} {K:α->Prop}:pT enc a o cs K↔(∃a',enc a'=fp (enc a) o cs/\K a'):=⟨fun h=>h.out,fun h=>⟨h⟩⟩
theorem ak {α:Type} {enc:α->List AV} {a:α} {o:Nat} {cs:List AV} {K:α->Prop} (a':α) (h:enc a'=fp (enc a) o cs) (hk:K a'):pT enc a o cs K:=by
 rw[fv];exact⟨a',h,hk⟩
def er (tt:TT) (t:TypeId) (us:List AV) (M:ai) (K:ai->Prop):Prop:=
 match us with
 |[a,x]=>match bP x,tt.find t with
  |some cs,some i=>match Nat.beq cs.length i.size with
   |true=>match a with
    | .ptr ℓ o=>match M ℓ with
     |some (.box bt cells)=>match allOne cs,Nat.ble (o+cs.length) cells.length with
      |true,true=>k9 (fp cells o cs) fun cells'=>K (M.set ℓ (.box bt cells'))
      |_,_=>False
     |_=>False
    | .rel ℓ j o=>dJ cs M fun cs' M'=>match M' ℓ with
     |some (.row rt d enc l)=>match cg cs',Nat.ble (o+cs'.length) (enc (l.getD j d)).length with
      |true,true=>pT enc (l.getD j d) o cs' fun a'=>K (M'.set ℓ (.row rt d enc (l.set j a')))
      |_,_=>False
     |_=>False
    |_=>False
   |false=>False
  |_,_=>False
 |_=>False
def jt (tt:TT) (t:TypeId) (dst:Option Tmp) (M:ai) (K:AV->ai->Prop):Prop:=
 match dst,tt.find t with
 |some d,some i=>match M d with
  |none=>k9 (i.zero.map db) fun z=>K (.ptr d 0) (M.set d (.box t z))
  |some _=>False
 |_,_=>False
structure JD (t:TypeId) (cs:List AV) (d:Nat) (M:ai) (K:AV->ai->Prop):Prop where
 out:(cg cs=true/\K (.pd cs) M)\/K (.ptr d 0) (M.set d (.box t cs))
theorem am {t:TypeId} {cs:List AV} {d:Nat} {M:ai} {K:AV->ai->Prop} (h:cg cs=true) (hk:K (.pd cs) M):JD t cs d M K:=⟨.inl ⟨h,hk⟩⟩
theorem yU {t:TypeId} {cs:List AV} {d:Nat} {M:ai} {K:AV->ai->Prop} (hk:K (.ptr d 0) (M.set d (.box t cs))):JD t cs d M K:=⟨.inr hk⟩
def DJ (t:TypeId) (us:List AV) (dst:Option Tmp) (M:ai) (K:AV->ai->Prop):Prop:=
 match dst,us with
 |some d,[x]=>match M d,bP x with
  |none,some cs=>JD t cs d M K
  |_,_=>False
 |_,_=>False
def aD (n:Int):List AV:=[.int .i64 n]
structure Nf (Z:List AV) (bytes:Nat) (n c:Int) (K:(α:Type)->α->(α->List AV)->List α->Prop):Prop where
 out:(0<=n/\n<=c/\c*bytes<=140737488355328)/\∃(α:Type) (d:α) (enc:α->List AV) (z:α),enc z=Z/\K α d enc (List.replicate n.toNat z)
theorem kc {Z:List AV} {bytes:Nat} {n c:Int} {K:(α:Type)->α->(α->List AV)->List α->Prop}:Nf Z bytes n c K↔((0<=n/\n<=c/\c*bytes<=140737488355328)/\∃(α:Type) (d:α) (enc:α->List AV) (z:α),enc z=Z/\K α d enc (List.replicate n.toNat z)):=⟨fun h=>h.out,fun h=>⟨h⟩⟩
theorem ww {Z:List AV} {bytes:Nat} {n c:Int} {K:(α:Type)->α->(α->List AV)->List α->Prop} {α:Type} (d:α) (enc:α->List AV) (z:α) (hz:enc z=Z)
  (h:0<=n/\n<=c/\c*bytes<=140737488355328) (hk:K α d enc (List.replicate n.toNat z)):Nf Z bytes n c K:=by
 rw[kc];exact⟨h,α,d,enc,z,hz,hk⟩
def mA (tt:TT) (t:TypeId) (us:List AV) (dst:Option Tmp) (M:ai) (K:AV->ai->Prop):Prop:=
 match dst,us,tt.find t with
 |some d,[.int .i64 n, .int .i64 c],some ⟨_,_, .slice e,_⟩=>match M d,tt.find e with
  |none,some i=>match cg (i.zero.map db),i.bytes with
   |true,_+1=>Nf (i.zero.map db) i.bytes n c fun _ dd enc l=>K (.row d n.toNat i.size) (M.set d (.row e dd enc l))
   |_,_=>False
  |_,_=>False
 |_,_,_=>False
def NA (u v:AV):Prop:=u=v\/(u= .nilsl/\∃(α:Type) (d:α) (enc:α->List AV),v= .sl d enc [])
def IP:List AV->List AV->Prop
 |[],[]=>True
 |u::us,v::vs=>NA u v/\IP us vs
 |_,_=>False
def JE:List (List AV)->List (List AV)->Prop
 |[],[]=>True
 |u::us,v::vs=>IP u v/\JE us vs
 |_,_=>False
theorem wx:∀us,IP us us
 |[]=>trivial
 |_::us=>⟨.inl rfl,wx us⟩
theorem ng:∀us,JE us us
 |[]=>trivial
 |u::us=>⟨wx u,ng us⟩
theorem JF {S:ag} {v:Value} {u u':AV} (h:NA u u') (hv:RP S v u):RP S v u':=by
 rcases h with rfl|⟨rfl,α,d,enc,rfl⟩
 ·exact hv
 ·cases hv
  exact .sl d enc [] none 0 0 (fun _ _=>undef) (by simp) (by simp) (by simp) (by simp) (by simp) (by simp)
theorem Ab:∀{us us':List AV},IP us us'->us.length=us'.length
 |[],[],_=>rfl
 |_::_,_::_,h=>by simp[Ab h.2]
 |[],_::_,h=>h.elim
 |_::_,[],h=>h.elim
theorem Ac:∀{us us':List AV} {j:Nat} {u':AV},IP us us'->us'[j]? =some u'->∃u,us[j]? =some u/\NA u u'
 |_::_,_::_,0,_,h,e=>by simp at e;subst e;exact⟨_,rfl,h.1⟩
 |_::_,_::_,j+1,_,h,e=>by simp at e;simpa using Ac h.2 e
 |[],[],_,_,_,e=>by simp at e
 |[],_::_,_,_,h,_=>h.elim
 |_::_,[],_,_,h,_=>h.elim
theorem Ad:∀{us us':List (List AV)},JE us us'->us.length=us'.length
 |[],[],_=>rfl
 |_::_,_::_,h=>by simp[Ad h.2]
 |[],_::_,h=>h.elim
 |_::_,[],h=>h.elim
theorem Ae:∀{us us':List (List AV)} {j:Nat} {u':List AV},JE us us'->us'[j]? =some u'->∃u,us[j]? =some u/\IP u u'
 |_::_,_::_,0,_,h,e=>by simp at e;subst e;exact⟨_,rfl,h.1⟩
 |_::_,_::_,j+1,_,h,e=>by simp at e;simpa using Ae h.2 e
 |[],[],_,_,_,e=>by simp at e
 |[],_::_,_,_,h,_=>h.elim
 |_::_,[],_,_,h,_=>h.elim
theorem JG {S:ag} {vs:List Value} {us us':List AV} (h:IP us us') (hv:iY S vs us):iY S vs us':=
 ⟨hv.1.trans (Ab h),fun _ _ hu=>let ⟨_,e,hw⟩:=Ac h hu;let ⟨v,e2,hr⟩:=hv.2 _ _ e;⟨v,e2,JF hw hr⟩⟩
theorem Af:∀{us us':List AV},IP us us'->allOne us=true->allOne us'=true
 |[],[],_,_=>rfl
 |u::us,u'::us',h,ho=>by
  simp only[allOne] at ho⊢
  cases hu:nc u with
  |false=>rw[hu] at ho;cases ho
  |true=>
   rw[hu] at ho
   have:nc u'=true:=by
    rcases h.1 with rfl|⟨_,α,d,enc,rfl⟩
    ·exact hu
    ·rfl
   rw[this]
   exact Af h.2 ho
 |[],_::_,h,_=>h.elim
 |_::_,[],h,_=>h.elim
structure GN (css:List (List AV)) (K:(α:Type)->α->(α->List AV)->List α->Prop):Prop where
 out:∃(α:Type) (d:α) (enc:α->List AV) (l:List α),JE css (l.map enc)/\K α d enc l
theorem jG {css:List (List AV)} {K:(α:Type)->α->(α->List AV)->List α->Prop}:GN css K↔(∃(α:Type) (d:α) (enc:α->List AV) (l:List α),JE css (l.map enc)/\K α d enc l):=⟨fun h=>h.out,fun h=>⟨h⟩⟩
theorem cA {css:List (List AV)} {K:(α:Type)->α->(α->List AV)->List α->Prop} {α:Type} (d:α) (enc:α->List AV) (l:List α) (h:l.map enc=css) (hk:K α d enc l):GN css K:=by
 rw[jG];exact⟨α,d,enc,l,h▸ng _,hk⟩
def fc (n:Nat):List AV->Option (List (List AV))
 |[]=>some []
 |u::us=>match bP u,fc n us with
  |some cs,some r=>match Nat.beq cs.length n with
   |true=>some (cs::r)
   |false=>none
  |_,_=>none
def jH:List (List AV)->Bool
 |[]=>true
 |u::us=>match cg u with|true=>jH us|false=>false
def qz:List (List AV)->Option (List Int)
 |[]=>some []
 |[.int .i64 n]::r=>match qz r with
  |some l=>some (n::l)
  |none=>none
 |_=>none
def nh:List (List AV)->Option (List Int)
 |[]=>none
 |c::r=>qz (c::r)
def ni:List Nat->Nat->Bool
 |[],_=>true
 |i::r,n=>match Nat.beq i n with|true=>ni r (n+1)|false=>false
def ju:List (List AV)->ai->(List (List AV)->ai->Prop)->Prop
 |[],M,K=>K [] M
 |cs::r,M,K=>dJ cs M fun cs' M'=>ju r M' fun r' M''=>K (cs'::r') M''
def eY (tt:TT) (t:TypeId) (len:Nat) (is:List Nat) (us:List AV) (dst:Option Tmp) (M:ai) (K:AV->ai->Prop):Prop:=
 match dst,tt.find t with
 |some d,some ⟨_,_, .slice e,_⟩=>match tt.find e with
  |some i=>match ni is 0,Nat.beq is.length len,Nat.ble (len*i.size) 16777216,fc i.size us with
   |true,true,true,some css0=>ju css0 M fun css M'=>match M' d with
    |none=>match jH css with
     |true=>match nh css with
      |some ns=>K (.row d len i.size) (M'.set d (.row e (0:Int) aD ns))
      |none=>GN css fun α dd enc l=>K (.row d len i.size) (M'.set d (.row e dd enc l))
     |false=>False
    |some _=>False
   |_,_,_,_=>False
  |none=>False
 |_,_=>False
structure NB {α β:Type} (enc:α->List AV) (l:List α) (enc':β->List AV) (l':List β) (K:List α->Prop) (K0:Prop):Prop where
 out:(l'.length<=l.length/\∃l'',l''.map enc=l'.map enc'/\K (l''++l.drop l'.length))\/(l=[]/\K0)
def yV {α:Type} (l:List α) (lo lo' k:Nat):List α:=l.take lo++((l.drop lo').take k++l.drop (lo+k))
def yW (tt:TT) (t:TypeId) (ℓ lo n sz ℓ' lo' m sz':Nat) (M:ai) (K:AV->ai->Prop):Prop:=
 match Nat.beq ℓ ℓ',Nat.beq sz sz' with
 |true,true=>match tt.find t,M ℓ with
  |some ⟨_,_, .slice e,_⟩,some (.row rt d enc l)=>match tt.find e with
   |some i=>match Nat.beq i.size sz with
    |true=>gJ (0<n/\0<m) (K (.int .i64 ((Nat.min m n:Nat):Int)) (M.set ℓ (.row rt d enc (yV l lo lo' (Nat.min m n)))))
    |false=>False
   |none=>False
  |_,_=>False
 |_,_=>False
def DK (tt:TT) (ts:List TypeId) (us:List AV) (M:ai) (K:AV->ai->Prop):Prop:=
 match ts,us with
 |[t,_],[.row ℓ _ sz, .sl dd' enc' l']=>match tt.find t,M ℓ with
  |some ⟨_,_, .slice e,_⟩,some (.row rt d enc l)=>match tt.find e with
   |some i=>match Nat.beq i.size sz,Nat.beq (enc' (l'.getD 0 dd')).length i.size with
    |true,true=>NB enc l enc' l' (fun l''=>K (.int .i64 (l'.length:Int)) (M.set ℓ (.row rt d enc l''))) (K (.int .i64 0) M)
    |_,_=>False
   |none=>False
  |_,_=>False
 |[t,_],[.part ℓ lo n sz, .part ℓ' lo' m sz']=>yW tt t ℓ lo n sz ℓ' lo' m sz' M K
 |_,_=>False
def sT (x:AV) (M:ai) (K:(α:Type)->α->(α->List AV)->List α->Prop):Prop:=
 match x with
 | .sl d enc l=>K _ d enc l
 | .row ℓ _ _=>match M ℓ with
  |some (.row _ d enc l)=>K _ d enc l
  |some (.gone d enc l)=>K _ d enc l
  |_=>False
 | .val (.slice _ 0 _)=>K Int 0 (fun n=>[.int .i64 n]) []
 |_=>False
structure wy {α β:Type} (enc:α->List AV) (l:List α) (enc':β->List AV) (l':List β) (bytes:Nat) (K:List α->Prop):Prop where
 out:((l.length+l'.length)*bytes<=140737488355328)/\∃l'',l''.map enc=l'.map enc'/\K l''
theorem iE {α β:Type} {enc:α->List AV} {l:List α} {enc':β->List AV} {l':List β} {bytes:Nat} {K:List α->Prop}:wy enc l enc' l' bytes K↔(((l.length+l'.length)*bytes<=140737488355328)/\∃l'',l''.map enc=l'.map enc'/\K l''):=⟨fun h=>h.out,fun h=>⟨h⟩⟩
theorem cB {α β:Type} {enc:α->List AV} {l:List α} {enc':β->List AV} {l':List β} {bytes:Nat} {K:List α->Prop} (l'':List α) (h:l''.map enc=l'.map enc')
  (hb:(l.length+l'.length)*bytes<=140737488355328) (hk:K l''):wy enc l enc' l' bytes K:=by
 rw[iE];exact⟨hb,l'',h,hk⟩
def fH (tt:TT) (ts:List TypeId) (us:List AV) (dst:Option Tmp) (M:ai) (K:AV->ai->Prop):Prop:=
 match dst,ts,us with
 |some d,[t,t'],[s,x]=>match tt.find t,cZ tt t',M d with
  |some ⟨_,_, .slice e,_⟩,true,none=>match tt.find e with
   |some i=>match i.bytes with
    |0=>False
    |_+1=>sT x M fun _ dd' enc' l'=>match Nat.beq (enc' (l'.getD 0 dd')).length i.size with
     |true=>match s with
      | .nilsl=>gJ (l'.length*i.bytes<=140737488355328) (K (.row d l'.length i.size) (M.set d (.row e dd' enc' l')))
      | .slc dd enc l=>match Nat.beq (enc (l.getD 0 dd)).length i.size with
       |true=>gJ (0<l'.length) (wy enc l enc' l' i.bytes fun l''=>K (.row d (l.length+l'.length) i.size) (M.set d (.row e dd enc (l++l''))))
       |false=>False
      | .row ℓ n sz=>match M ℓ,Nat.beq sz i.size with
       |some (.row e' dd enc l),true=>match Nat.beq e' e,(match x with| .row ℓ' _ _=>!(Nat.beq ℓ ℓ')|_=>true) with
        |true,true=>wy enc l enc' l' i.bytes fun l''=>K (.row d (n+l'.length) i.size) ((M.set ℓ .dead).set d (.row e dd enc (l++l'')))
        |_,_=>False
       |_,_=>False
      |_=>False
     |false=>False
   |none=>False
  |_,_,_=>False
 |_,_,_=>False
def qA (tt:TT) (ts:List TypeId) (ℓ lo n sz:Nat) (x:AV) (dst:Option Tmp) (M:ai) (K:AV->ai->Prop):Prop:=
 match dst,ts with
 |some d,[t,t']=>match tt.find t,cZ tt t',M d with
  |some ⟨_,_, .slice e,_⟩,true,none=>match tt.find e with
   |some i=>match i.bytes with
    |0=>False
    |_+1=>sT x M fun _ dd' enc' l'=>match Nat.beq (enc' (l'.getD 0 dd')).length i.size with
     |true=>match M ℓ,Nat.beq sz i.size with
      |some (.row e' dd enc l),true=>match Nat.beq e' e,(match x with| .row ℓ' _ _=>!(Nat.beq ℓ ℓ')|_=>true) with
       |true,true=>gJ (0<n/\lo+n=l.length) (wy enc l enc' l' i.bytes fun l''=>K (.part d lo (n+l'.length) i.size) ((M.set ℓ .dead).set d (.row e dd enc (l++l'')))/\
         K (.part d 0 (n+l'.length) i.size) ((M.set ℓ .dead).set d (.row e dd enc (l.drop lo++l''))))
       |_,_=>False
      |_,_=>False
     |false=>False
   |none=>False
  |_,_,_=>False
 |_,_=>False
def JH (A:Prop) (tt:TT) (ts:List TypeId) (us:List AV) (dst:Option Tmp) (M:ai) (K:AV->ai->Prop):Prop:=
 match us with
 |[.part ℓ lo n sz,x]=>qA tt ts ℓ lo n sz x dst M K
 |_=>A
def uR (tt:TT) (t:TypeId) (us:List AV) (M:ai) (K:ai->Prop):Prop:=
 match us with
 |[.rel ℓ j o,x]=>match M ℓ with
  |some (.hdr rt g m)=>match bP x,tt.find t with
   |some cs,some i=>match Nat.beq cs.length i.size,allOne cs,Nat.ble (o+cs.length) (g j).length with
    |true,true,true=>K (M.set ℓ (.hdr rt (fun k=>match Nat.beq k j with|true=>fp (g j) o cs|false=>g k) m))
    |_,_,_=>False
   |_,_=>False
  |_=>er tt t [.rel ℓ j o,x] M K
 |us=>er tt t us M K
def LK (tt:TT) (ts:List TypeId) (s:AV) (ℓ' sz':Nat) (e':TypeId) (g':Nat->List AV) (m':Nat) (dst:Option Tmp) (M:ai) (K:AV->ai->Prop):Prop:=
 match dst,ts with
 |some d,[t,t']=>match tt.find t,cZ tt t',M d with
  |some ⟨_,_, .slice e,_⟩,true,none=>match tt.find e with
   |some i=>match i.bytes,Nat.beq sz' i.size,Nat.beq e' e&&Nat.blt 0 m' with
    |_+1,true,true=>match s with
     | .nilsl=>gJ (m'*i.bytes<=140737488355328) (K (.row d m' i.size) (M.set d (.hdr e g' m')))
     | .row ℓ n sz=>match M ℓ,Nat.beq sz i.size,Nat.beq ℓ ℓ' with
      |some (.hdr e2 g m),true,false=>match Nat.beq e2 e with
       |true=>gJ ((m+m')*i.bytes<=140737488355328) (K (.row d (n+m') i.size) ((M.set ℓ .dead).set d (.hdr e (fun k=>match Nat.blt k m with|true=>g k|false=>g' (k-m)) (m+m'))))
       |false=>False
      |_,_,_=>False
     |_=>False
    |_,_,_=>False
   |none=>False
  |_,_,_=>False
 |_,_=>False
def JI (A:Prop) (tt:TT) (ts:List TypeId) (us:List AV) (dst:Option Tmp) (M:ai) (K:AV->ai->Prop):Prop:=
 match us with
 |[s, .row ℓ' _ sz']=>match M ℓ' with
  |some (.hdr e' g' m')=>LK tt ts s ℓ' sz' e' g' m' dst M K
  |_=>A
 |_=>A
def JJ (A:Prop) (tt:TT) (t:TypeId) (len:Nat) (is:List Nat) (us:List AV) (dst:Option Tmp) (M:ai) (K:AV->ai->Prop):Prop:=
 match us with
 |[u]=>match M 9999 with
  |some _=>match dst,tt.find t,bP u with
   |some d,some ⟨_,_, .slice e,_⟩,some cs=>match tt.find e,M d with
    |some i,none=>match ni is 0,Nat.beq is.length len,Nat.beq len 1,Nat.ble i.size 1000,Nat.beq cs.length i.size,allOne cs with
     |true,true,true,true,true,true=>K (.row d 1 i.size) (M.set d (.hdr e (fun _=>cs) 1))
     |_,_,_,_,_,_=>False
    |_,_=>False
   |_,_,_=>False
  |none=>A
 |_=>A
def NC (A:Prop) (tt:TT) (t:TypeId) (us:List AV) (M:ai) (K:AV->ai->Prop):Prop:=
 match M 9998 with
 |some _=>match us,tt.find t with
  |[.int .i64 n, .int .i64 c],some ⟨_,_, .slice e,_⟩=>match tt.find e with
   |some _=>gJ (n=0/\c=0) (∀ad:Addr,K (.val (.slice (some ad) 0 0)) M)
   |none=>False
  |_,_=>False
 |none=>A
def qB (tt:TT) (t:TypeId) (us:List AV) (dst:Option Tmp) (M:ai) (K:AV->ai->Prop):Prop:=
 match dst,us with
 |some d,[.str s]=>match tt.find t,M d with
  |some ⟨_,_, .string,_⟩,none=>K (.ptr d 0) (M.set d (.iter s 0))
  |_,_=>False
 |_,_=>False
structure DL (s:ByteArray) (pos:Nat) (k1 k2:Prop):Prop where
 out:(pos<s.size->k1)/\(¬pos<s.size->k2)
theorem LL {s:ByteArray} {pos:Nat} {k1 k2:Prop} (h1:pos<s.size->k1) (h2:¬pos<s.size->k2):DL s pos k1 k2:=⟨⟨h1,h2⟩⟩
theorem tx {s:ByteArray} {pos:Nat} {k1 k2:Prop}:DL s pos k1 k2↔((pos<s.size->k1)/\(¬pos<s.size->k2)):=⟨fun h=>h.out,fun h=>⟨h⟩⟩
def wz (str:Bool) (us:List AV) (M:ai) (K:AV->ai->Prop):Prop:=
 match str,us with
 |true,[.ptr ℓ 0]=>match M ℓ with
  |some (.iter s pos)=>DL s pos (K (.tup [.bool true, .int .i64 (pos:Int), .int .i32 ((Utf8.decode s pos).1:Int)]) (M.set ℓ (.iter s (pos+(Utf8.decode s pos).2)))) (K (.tup [.bool false]) M)
  |_=>False
 |_,_=>False
def la (tt:TT) (ts:List TypeId) (us:List AV) (dst:Option Tmp) (M:ai) (K:AV->ai->Prop):Prop:=
 match dst,ts,us with
 |some d,[t,t'],[.nilsl, .int .i64 n]=>match tt.find t,tt.find t',M d with
  |some ⟨_,_, .slice e,_⟩,some ⟨_,_, .int _,_⟩,none=>match tt.find e with
   |some i=>match cg (i.zero.map db),i.bytes with
    |true,_+1=>Nf (i.zero.map db) i.bytes n n fun _ dd enc l=>K (.row d n.toNat i.size) (M.set d (.row e dd enc l))
    |_,_=>False
   |none=>False
  |_,_,_=>False
 |_,_,_=>False
def kM (tt:TT) (ts:List TypeId) (us:List AV) (dst:Option Tmp) (M:ai) (K:AV->ai->Prop):Prop:=
 match us with
 |[_, .int _ _]=>la tt ts us dst M K
 |_=>fH tt ts us dst M K
def uS (tt:TT) (t:TypeId) (ℓ n sz:Nat) (b:Int) (dst:Option Tmp) (M:ai) (K:AV->ai->Prop):Prop:=
 match dst,tt.find t with
 |some d,some ⟨_,_, .slice e,_⟩=>match tt.find e,M ℓ,M d with
  |some _,some (.row rt dd enc l),none=>gJ (0<=b/\b<=n) (K (.row d b.toNat sz) ((M.set ℓ .dead).set d (.row rt dd enc (l.take b.toNat))))
  |_,_,_=>False
 |_,_=>False
end
section
def bW (P:Program) (S F:ag) (ρ:aw) (w:World) (m:Sem Value) (K:AV->ai->Prop):Prop:=
 ∃v u M' S' ρ' w',m.run P w= .ok v w'/\K u M'/\S.le S'/\aw.le ρ ρ'/\ax S' F ρ' M' w'/\RV S' ρ' v u/\ce w w'
def nj (P:Program) (S F:ag) (ρ:aw) (w:World) (m:Sem Unit) (K:ai->Prop):Prop:=
 ∃M' S' ρ' w',m.run P w= .ok () w'/\K M'/\S.le S'/\aw.le ρ ρ'/\ax S' F ρ' M' w'/\ce w w'
section
variable {S F:ag} {ρ:aw} {M:ai} {w:World} {P:Program} {tt:TT}
theorem BG (hT:aW P tt=true) {t:TypeId} {dst:Option Tmp} {K:AV->ai->Prop} (h:jt tt t dst M K) (hM:ax S F ρ M w):bW P S F ρ w (Instr.alloc t true (.tuple #[])) K:=by
 unfold jt at h
 split at h
 ·rename_i d i ht
  split at h
  ·rename_i hd
   rw[dV] at h
   obtain⟨x,z,hx,_,_,hz,hzc,_⟩:=TOk.info hT ht
   let b:dU:=⟨w.heap.size,0,0,0,false⟩
   refine⟨_,_,_,S,aw.set ρ d b,w.alloc (.cells z.cells t),?_,h,ag.le_refl _,aw.set_le _ (hM.fresh hd),hM.alloc hd _ t b _ (fun _=>rfl) ?_, .ptr d 0 b (aw.set_eq _ _ _),ce.alloc_cells _ _ _⟩
   ·simp only[Instr.alloc,zeroValue,typeInfo,Sem.run_bind,run_program,Result.andThen_ok,hx,Sem.run_pure,hz,newVar,newRow,run_newObj]
    rfl
   ·exact⟨z.cells,bw _ _,by rw[hzc];exact ep _,ag.inW_size hM.sw,ag.inW_size hM.fw⟩
  ·exact h.elim
 ·exact h.elim
theorem GO {t:TypeId} {dst:Option Tmp} {K:AV->ai->Prop} {us:List AV} {v:Value} (h:DJ t us dst M K) (hM:ax S F ρ M w) (hv:be S ρ [v] us):bW P S F ρ w (Instr.box t v) K:=by
 unfold DJ at h
 split at h
 ·rename_i d x
  split at h
  ·rename_i cs hd hcs
   obtain⟨y,ys,e,hy,_⟩:=hv.cons_inv
   injection e with e _
   subst e
   obtain⟨hc,_⟩:=im hcs hy
   have hrun:(Instr.box t v).run P w= .ok (.pointer (some ⟨w.heap.size,0,none⟩)) (w.alloc (.cells v.cells t)):=by
    simp only[Instr.box,newVar,newRow,Sem.run_bind,run_newObj,Result.andThen_ok,Sem.run_pure]
    rfl
   rcases h.out with ⟨hp,h⟩|h
   ·obtain⟨hpc,_⟩:=fq hp hc
    have hfresh:∀{S:ag},S.inW w->S w.heap.size=none:=fun h=>ag.inW_size h
    let S':ag:=fun k=>if k=w.heap.size then some (.cells v.cells t (0,0)) else S k
    have hS'k:∀k,k≠w.heap.size->S' k=S k:=fun k hk=>by show(if _ then _ else _)=_;rw[if_neg hk]
    have hS'b:S' w.heap.size=some (.cells v.cells t (0,0)):=by show(if _ then _ else _)=_;rw[if_pos rfl]
    have hle:ag.le S S':=fun k o hk=>by
     by_cases e:k=w.heap.size
     ·subst e;rw[hfresh hM.sw] at hk;cases hk
     ·rw[hS'k _ e];exact hk
    have hpd:RP S' (.pointer (some ⟨w.heap.size,0,none⟩)) (.pd cs):=by
     have hl:=hpc.1
     simp only[Array.length_toList] at hl
     refine .pd cs _ (fun j=>v.cells.getD j undef) (fun j hj=>?_) (fun j u hu=>?_)
     ·rw[Addr.add_mk]
      have:j<v.cells.size:=by omega
      simp[ag.cell,hS'b,this]
     ·obtain⟨y,hy,hr⟩:=hpc.2 j u hu
      have hy':v.cells[j]? =some y:=by simpa using hy
      have:v.cells.getD j undef=y:=by simp[hy']
      rw[this];exact hr.mono hle
    refine⟨_,_,M,S',ρ,_,hrun,h,hle,aw.le_refl _,⟨fun k o hk=>?_,ag.inW_alloc hM.fw _,fun k=>?_,hM.dom,fun ℓ B hB=>?_,hM.inj,hM.gl.mono hle⟩, .p hpd,ce.alloc_cells _ _ _⟩
    ·by_cases e:k=w.heap.size
     ·subst e;rw[hS'b] at hk;cases hk;exact bw _ _
     ·rw[hS'k _ e] at hk;exact ag.inW_alloc hM.sw _ k o hk
    ·by_cases e:k=w.heap.size
     ·subst e;exact .inr (hfresh hM.fw)
     ·rw[hS'k _ e];exact hM.sf k
    ·obtain⟨b,hb,hr⟩:=hM.blk _ _ hB
     refine⟨b,hb,hr.keep hle (aw.le_refl _) fun hl=>?_⟩
     have:=hr.lt hl
     exact⟨io _ _ _ this,hS'k _ (by omega)⟩
   ·let b:dU:=⟨w.heap.size,0,0,0,false⟩
    have hle:=aw.set_le b (hM.fresh hd)
    refine⟨_,_,_,S,aw.set ρ d b,_,hrun,h,ag.le_refl _,hle,hM.alloc hd _ t b _ (fun _=>rfl) ?_, .ptr d 0 b (aw.set_eq _ _ _),ce.alloc_cells _ _ _⟩
    exact⟨v.cells,bw _ _,hc.mono (ag.le_refl _) hle,ag.inW_size hM.sw,ag.inW_size hM.fw⟩
  ·exact h.elim
 ·exact h.elim
theorem fe {α:Type _} {l cs:List α} {o:Nat} (h:o+cs.length<=l.length):(l.take o++(cs++l.drop (o+cs.length))).length=l.length:=by
 simp;omega
theorem ke:∀{us:List AV},allOne us=true↔∀u∈us,nc u=true
 |[]=>by simp[allOne]
 |u::us=>by
  simp only[allOne,List.mem_cons,forall_eq_or_imp]
  cases h:nc u with
  |true=>simp[ke (us:=us)]
  |false=>simp
theorem sU {us cs:List AV} (h:allOne us=true) (h':allOne cs=true) (o:Nat):allOne (fp us o cs)=true:=by
 rw[ke] at*
 unfold fp
 intro u hu
 rcases List.mem_append.1 hu with hu|hu
 ·exact h u (List.mem_of_mem_take hu)
 ·rcases List.mem_append.1 hu with hu|hu
  ·exact h' u hu
  ·exact h u (List.mem_of_mem_drop hu)
theorem lV (hT:aW P tt=true) {t:TypeId} {K:ai->Prop} {us:List AV} {va vx:Value} (h:er tt t us M K) (hM:ax S F ρ M w) (hv:be S ρ [va,vx] us):nj P S F ρ w (Instr.storeAt t va vx) K:=by
 unfold er at h
 split at h
 ·rename_i a x
  obtain⟨y,ys,e,ha,hv⟩:=hv.cons_inv
  injection e with e e'
  subst e;subst e'
  obtain⟨y,ys,e,hx,_⟩:=hv.cons_inv
  injection e with e _
  subst e
  split at h
  ·rename_i cs i hcs ht
   obtain⟨hc,_⟩:=im hcs hx
   have hlen:=hc.1
   simp only[Array.length_toList] at hlen
   split at h
   ·rename_i hsz
    have hsz:=Nat.eq_of_beq_eq_true hsz
    have hsize:=TOk.size hT ht w
    split at h
    ·rename_i ℓ o
     obtain⟨b,hb,rfl⟩:=ha.ptr_inv
     split at h
     ·rename_i bt cells hl
      obtain⟨b',hb',vs,hheap,hvs,hSb,hFb⟩:=hM.blk _ _ hl
      rw[hb] at hb';cases hb'
      split at h
      ·rename_i hone hle
       have hle:=Nat.le_of_ble_eq_true hle
       rw[dV] at h
       have hvl:=hvs.1
       simp only[Array.length_toList] at hvl
       have hst:=run_storeCells_at P b.blk o bt vx.cells.toList 0 vs w hheap (by simp;omega) (jF hone hc)
       refine⟨_,S,ρ,_,?_,h,ag.le_refl _,aw.le_refl _,hM.upd hl hb (w':=w.setRow b.blk (vs.toList.take (o+0)++vx.cells.toList++vs.toList.drop (o+0+vx.cells.toList.length)).toArray) (fun k hk=>?_) (fun hh=>hh) ?_,ce.setRow hheap⟩
       ·simp only[Instr.storeAt,Instr.sureAddr,Sem.run_bind,Sem.run_pure,Result.andThen_ok,storeVar,hsize,hlen,hsz]
        simpa using hst
       ·rcases hk with hk|hk
        ·exact setRow_other _ _ _ _ hk
        ·exact absurd trivial hk
       ·refine⟨_,setRow_heap _ _ _ _ _ _ hheap,?_,hSb,hFb⟩
        have:=hvs.splice_ hc o
        simpa[fG] using this
      ·exact h.elim
     ·exact h.elim
    ·rename_i ℓ j o
     obtain⟨b,hb,hj,rfl⟩:=ha.rel_inv
     obtain⟨cs',M',S',h,hS',hc',hM',_⟩:=gK _ _ _ _ _ h hc hM
     split at h
     ·rename_i rt α d enc l hl
      obtain⟨b',hb',hlen',hszs,hcase⟩:=hM'.blk _ _ hl
      rw[hb] at hb';cases hb'
      rcases hcase with ⟨_,rfl,_⟩|⟨hnil,hcap,vs,hheap,hvsz,hcell,hSb,hFb⟩
      ·simp at hlen';omega
      split at h
      ·rename_i hpers hle
       have hle:=Nat.le_of_ble_eq_true hle
       obtain⟨hpc,hone⟩:=fq hpers hc'
       rw[fv] at h
       obtain⟨a',ha',h⟩:=h
       have hg:=cr (d:=d) (l:=l) (n:=j) (by omega)
       have hel:=(hszs _ (List.mem_of_getElem? hg)).1
       have hcl:=hc'.1
       have hrow:(j+1)*b.sz<=b.cap*b.sz:=Nat.mul_le_mul_right _ (by omega)
       rw[Nat.add_mul] at hrow
       simp only[Array.length_toList] at hcl
       have hst:=run_storeCells_at P b.blk (j*b.sz+o) rt vx.cells.toList 0 vs w hheap (by simp;omega) (jF hone hc')
       refine⟨_,S',ρ,_,?_,h,hS',aw.le_refl _,hM'.upd hl hb (w':=w.setRow b.blk (vs.toList.take (j*b.sz+o+0)++vx.cells.toList++vs.toList.drop (j*b.sz+o+0+vx.cells.toList.length)).toArray) (fun k hk=>?_) (fun hh=>hh) ?_,ce.setRow hheap⟩
       ·simp only[Instr.storeAt,Instr.sureAddr,Sem.run_bind,Sem.run_pure,Result.andThen_ok,storeVar,hsize,hlen,hsz]
        simpa using hst
       ·rcases hk with hk|hk
        ·exact setRow_other _ _ _ _ hk
        ·exact absurd hnil hk
       ·have hal:(enc a').length=b.sz:=by rw[ha'];unfold fp;rw[fe hle,hel]
        refine⟨by simpa using hlen',fun y hy=>?_, .inr ⟨hnil,by simpa using hcap,_,setRow_heap _ _ _ _ _ _ hheap,?_,fun k y m u hk hu=>?_,hSb,hFb⟩⟩
        ·rcases List.mem_or_eq_of_mem_set hy with hy|rfl
         ·exact hszs y hy
         ·exact⟨hal,by rw[ha'];exact sU (hszs _ (List.mem_of_getElem? hg)).2 hone o⟩
        ·simp only[Nat.add_zero,List.size_toArray,List.append_assoc]
         rw[fe (by simp;omega)]
         simpa using hvsz
        ·simp only[Nat.add_zero,List.append_assoc,List.getElem?_toArray]
         rw[gI (by simp;omega)]
         have hm:m<b.sz:=by
          have h1:=(List.getElem?_eq_some_iff.1 hu).1
          rw[List.getElem?_set] at hk
          split at hk
          ·split at hk
           ·cases hk;omega
           ·simp at hk
          ·have:=(hszs y (List.mem_of_getElem? hk)).1;omega
         by_cases hkj:k=j
         ·subst hkj
          rw[List.getElem?_set_self (by omega)] at hk
          cases hk
          rw[ha'] at hu
          unfold fp at hu
          rw[gI hle] at hu
          by_cases h1:m<o
          ·rw[if_pos (by omega)]
           rw[if_pos h1] at hu
           simpa using hcell k _ m u hg hu
          ·rw[if_neg h1] at hu
           rw[if_neg (by omega)]
           by_cases h2:m<o+cs'.length
           ·rw[if_pos h2] at hu
            rw[if_pos (by simp;omega)]
            obtain⟨v,hv,hr⟩:=hpc.2 _ u hu
            exact⟨v,by rw[<-hv];congr 1;omega,hr⟩
           ·rw[if_neg h2] at hu
            rw[if_neg (by simp;omega)]
            simpa using hcell k _ m u hg hu
         ·rw[List.getElem?_set_ne (by omega)] at hk
          have hother:k*b.sz+m<j*b.sz\/j*b.sz+b.sz<=k*b.sz+m:=by
           rcases Nat.lt_or_ge k j with hh|hh
           ·left
            have:(k+1)*b.sz<=j*b.sz:=Nat.mul_le_mul_right _ (by omega)
            rw[Nat.add_mul] at this;omega
           ·right
            have:(j+1)*b.sz<=k*b.sz:=Nat.mul_le_mul_right _ (by omega)
            rw[Nat.add_mul] at this;omega
          have hget:=hcell k y m u hk hu
          by_cases h1:k*b.sz+m<j*b.sz+o
          ·rw[if_pos h1];simpa using hget
          ·rw[if_neg h1,if_neg (by simp;omega)];simpa using hget
      ·exact h.elim
     ·exact h.elim
    ·exact h.elim
   ·exact h.elim
  ·exact h.elim
 ·exact h.elim
end
end
section
section
variable {S F:ag} {ρ:aw} {M:ai} {w:World} {P:Program} {tt:TT}
theorem lc {z:List Value} {j:Nat} {u:AV} (h:(z.map db)[j]? =some u):∃v,z[j]? =some v/\RP S v u:=by
 rw[List.getElem?_map] at h
 obtain⟨v,hv,rfl⟩:=Option.map_eq_some_iff.1 h
 exact⟨v,hv,jE v⟩
theorem wA (hT:aW P tt=true) {t:TypeId} {dst:Option Tmp} {K:AV->ai->Prop} {us:List AV} {vl vc:Value} (h:mA tt t us dst M K) (hM:ax S F ρ M w) (hv:be S ρ [vl,vc] us):bW P S F ρ w (Instr.makeSlice t vl vc) K:=by
 unfold mA at h
 split at h
 ·rename_i d n c sz0 by0 e z0 ht
  obtain⟨y,ys,e1,hn,hv⟩:=hv.cons_inv
  injection e1 with e1 e2;subst e1;subst e2
  obtain⟨y,ys,e1,hc,_⟩:=hv.cons_inv
  injection e1 with e1 _;subst e1
  cases hn.int_inv;cases hc.int_inv
  have hte:=TOk.slice hT ht
  split at h
  ·rename_i i hd hi
   obtain⟨x,z,hx,hxs,hxb,hz,hzc,_,hzl⟩:=TOk.info hT hi
   split at h
   ·rename_i m hp hbm
    have hbpos:0<i.bytes:=by rw[hbm];omega
    rw[kc] at h
    obtain⟨⟨h0,h1,h2⟩,α,dd,enc,zz,henc,hK⟩:=h
    have hc47:c<=140737488355328:=by
     have:c*1<=c*(i.bytes:Int):=Int.mul_le_mul_of_nonneg_left (by omega) (by omega)
     omega
    have wn:IntKind.i64.wrap n=n:=k8 (by omega)
    have wc:IntKind.i64.wrap c=c:=k8 (by omega)
    let b:dU:=⟨w.heap.size,n.toNat,c.toNat,i.size,false⟩
    let zero:Array Value:=if c.toNat*i.size=0 then#[] else z.cells
    let arr:Array Value:=(Array.range (c.toNat*i.size)).map (zero[· % zero.size]!)
    have harr:arr.size=c.toNat*i.size:=by simp[arr]
    refine⟨.slice (some ⟨w.heap.size,0,none⟩) n.toNat c.toNat,_,_,S,aw.set ρ d b,w.alloc (.cells arr e),?_,hK,ag.le_refl _,aw.set_le _ (hM.fresh hd),hM.alloc hd _ e b _ (fun _=>rfl) ?_,?_,ce.alloc_cells _ _ _⟩
    ·have t1:(decide (c<0)||decide ((i.bytes:Int)*c>2^48))=false:=by
      simp only[Bool.or_eq_false_iff,decide_eq_false_iff_not]
      refine⟨by omega,?_⟩
      rw[Int.mul_comm]
      have:(2:Int)^48=281474976710656:=by decide
      omega
     have hsz:(Go.sizeOf e).run P w= .ok i.size w:=TOk.size hT hi w
     have hcell:(c.toNat*i.size=0\/c.toNat*i.size≠0):=by omega
     simp only[Instr.makeSlice,Sem.run_bind,run_underlying hte,Result.andThen_ok,asInt,asIntOf,Sem.run_pure,typeInfo,run_program,hx,hxb,wn,wc,t1,Bool.false_or,Sem.run_ite]
     have t2:(decide (n<0)||decide (n>c))=false:=by
      simp only[Bool.or_eq_false_iff,decide_eq_false_iff_not];omega
     rw[if_neg (by simpa using t2)]
     simp only[Sem.run_pure,Result.andThen_ok,Sem.run_bind,run_askRoom,hsz,Sem.run_ite]
     rcases hcell with h'|h'
     ·simp only[h',if_true,Sem.run_pure,Result.andThen_ok,newRow,Sem.run_bind,run_newObj]
      simp only[arr,zero,h',if_true]
      rfl
     ·simp only[h',if_false,zeroValue,typeInfo,Sem.run_bind,run_program,hx,hz,Sem.run_pure,Result.andThen_ok,newRow,run_newObj]
      simp only[arr,zero,h',if_false]
      rfl
    ·refine⟨by simp[b],fun a ha=>?_, .inr ⟨rfl,by simp[b];omega,arr,bw _ _,harr,fun k a j u hk hu=>?_,ag.inW_size hM.sw,ag.inW_size hM.fw⟩⟩
     ·rw[List.eq_of_mem_replicate ha,henc];exact⟨by simpa[b] using hzl,(fq (S:=S) (ρ:=ρ) hp (ep _)).2⟩
     ·have hk':k<n.toNat:=by have:=(List.getElem?_eq_some_iff.1 hk).1;simpa using this
      have ha:a=zz:=List.eq_of_mem_replicate (List.mem_of_getElem? hk)
      subst ha
      rw[henc] at hu
      obtain⟨v,hv,hr⟩:=lc (S:=S) hu
      refine⟨v,?_,hr⟩
      have hj:j<i.size:=by rw[<-hzl];exact(List.getElem?_eq_some_iff.1 hv).1
      have hlt:k*i.size+j<c.toNat*i.size:=by
       have:(k+1)*i.size<=c.toNat*i.size:=Nat.mul_le_mul_right _ (by omega)
       rw[Nat.add_mul] at this;omega
      have hne:c.toNat*i.size≠0:=by omega
      show arr[k*i.size+j]? =some v
      have hzs:z.cells.size=i.size:=by rw[<-Array.length_toList,hzc,hzl]
      have hmod:(k*i.size+j) % i.size=j:=by rw[Nat.mul_comm,Nat.mul_add_mod];exact Nat.mod_eq_of_lt hj
      have hzj:z.cells[j]? =some v:=by rw[<-hzc] at hv;simpa using hv
      simp only[arr,zero,hne,if_false]
      simp[hlt,hzs,hmod]
      obtain⟨hjl,hjv⟩:=Array.getElem?_eq_some_iff.1 hzj
      rw[getElem!_pos z.cells j hjl];exact hjv
    ·have:=RV.row (S:=S) (ρ:=aw.set ρ d b) d n.toNat i.size b (aw.set_eq _ _ _) rfl rfl (by simp[b])
     exact this
   ·exact h.elim
  ·exact h.elim
 ·exact h.elim
theorem tz:∀(css:List (List AV)) (vss:List (List Value)) (S:ag) (M:ai) (K:List (List AV)->ai->Prop),ju css M K->vss.length=css.length->
  (∀(i:Nat) cs vs,css[i]? =some cs->vss[i]? =some vs->be S ρ vs cs)->ax S F ρ M w->
  ∃css' M' S',K css' M'/\S.le S'/\vss.length=css'.length/\(∀(i:Nat) cs vs,css'[i]? =some cs->vss[i]? =some vs->be S' ρ vs cs)/\ax S' F ρ M' w/\(∀x B,M x=some B->∃B',M' x=some B')
 |[],vss,S,M,K,h,hl,hv,hM=>⟨[],M,S,h,ag.le_refl _,hl,by simp,hM,fun x B hx=>⟨B,hx⟩⟩
 |cs::r,vss,S,M,K,h,hl,hv,hM=>by
  cases vss with
  |nil=>simp at hl
  |cons vs vss=>
   simp only[ju] at h
   obtain⟨cs',M1,S1,h1,hle1,hv1,hM1,hd1⟩:=gK _ _ _ _ _ h (hv 0 cs vs (by simp) (by simp)) hM
   obtain⟨css',M',S',hK,hle2,hlen,hv2,hM2,hd2⟩:=tz r vss S1 M1 _ h1 (by simpa using hl) (fun i cs vs h1 h2=>(hv (i+1) cs vs (by simpa using h1) (by simpa using h2)).mono hle1 (aw.le_refl _)) hM1
   refine⟨_,M',S',hK,ag.le_trans hle1 hle2,by simp[hlen],fun i cs vs h1 h2=>?_,hM2,fun x B hx=>?_⟩
   ·cases i with
    |zero=>simp at h1 h2;subst h1;subst h2;exact hv1.mono hle2 (aw.le_refl _)
    |succ i=>exact hv2 i cs vs (by simpa using h1) (by simpa using h2)
   ·obtain⟨B1,hB1⟩:=hd1 x B hx;exact hd2 x B1 hB1
theorem pp {n:Nat}:∀{us:List AV} {css:List (List AV)} {vs:List Value},fc n us=some css->be S ρ vs us->
  css.length=us.length/\(∀v∈vs,v.cells.size=n)/\∀(i:Nat) cs v,css[i]? =some cs->(vs.map (fun v=>v.cells.toList))[i]? =some v->be S ρ v cs
 |[],css,vs,h,hv=>by
  simp only[fc,Option.some.injEq] at h;subst h
  rw[hv.nil_inv];simp
 |u::us,css,vs,h,hv=>by
  obtain⟨x,xs,rfl,hx,hxs⟩:=hv.cons_inv
  simp only[fc] at h
  split at h
  ·rename_i cs r hcs hr
   split at h
   ·rename_i hlen
    have hlen:=Nat.eq_of_beq_eq_true hlen
    simp only[Option.some.injEq] at h;subst h
    obtain⟨h1,h2,h3⟩:=pp hr hxs
    obtain⟨hc,_⟩:=im hcs hx
    refine⟨by simp[h1],fun v hv=>?_,fun i cs' v hi hv=>?_⟩
    ·rcases List.mem_cons.1 hv with rfl|hv
     ·have:=hc.1;simp only[Array.length_toList] at this;omega
     ·exact h2 v hv
    ·cases i with
     |zero=>simp at hi hv;subst hi;subst hv;exact hc
     |succ i=>exact h3 i cs' v (by simpa using hi) (by simpa using hv)
   ·simp at h
  ·simp at h
theorem qC:∀(is:List Nat) (k:Nat),ni is k=true->is=List.range' k is.length
 |[],k,_=>by simp
 |i::r,k,h=>by
  simp only[ni] at h
  split at h
  ·rename_i hi
   have:=Nat.eq_of_beq_eq_true hi
   subst this
   rw[List.length_cons,List.range'_succ,<-qC r (i+1) h]
  ·simp at h
theorem qD (size:Nat):∀(vs:List Value) (k:Nat) (arr:Array Value),(∀v∈vs,v.cells.size=size)->(k+vs.length)*size<=arr.size->
  ∃arr',Instr.fill (fun i=>some (i*size,size)) arr ((List.range' k vs.length).zip vs)=some arr'/\arr'.size=arr.size/\(∀i,i<k*size->arr'[i]? =arr[i]?)/\
   ∀(m:Nat) v j,vs[m]? =some v->j<size->arr'[(k+m)*size+j]? =v.cells[j]?
 |[],k,arr,_,_=>⟨arr,by simp[Instr.fill],rfl,fun _ _=>rfl,by simp⟩
 |v::vs,k,arr,hs,hl=>by
  have hv:=hs v (by simp)
  have hkl:(k+1+vs.length)*size<=arr.size:=by simpa[Nat.add_assoc,Nat.add_comm,Nat.add_left_comm] using hl
  have hk1:(k+1)*size<=arr.size:=Nat.le_trans (Nat.mul_le_mul_right _ (by omega)) hkl
  rw[Nat.add_mul] at hk1
  let arr1:=v.cells.zipIdx.foldl (fun cs (p:Value×Nat)=>cs.setIfInBounds (k*size+p.2) p.1) arr
  have e1:arr1.toList=fG arr.toList (k*size) v.cells.toList:=by
   have:=tw v.cells.toList 0 (k*size) arr (by simp;omega)
   simp only[Nat.add_zero] at this
   rw[<-this]
   show(Array.foldl (fun cs (p:Value×Nat)=>cs.setIfInBounds (k*size+p.2) p.1) arr v.cells.zipIdx).toList=_
   rw[<-Array.foldl_toList,Array.toList_zipIdx]
  have hget:∀i,arr1[i]? =if i<k*size then arr[i]? else if i<k*size+size then v.cells[i-k*size]? else arr[i]?:=by
   intro i
   have:arr1[i]? =arr1.toList[i]?:=by simp
   rw[this,e1]
   unfold fG
   rw[gI (by simp;omega)]
   simp[hv]
  have hsz1:arr1.size=arr.size:=by
   rw[<-Array.length_toList,e1]
   unfold fG
   rw[fe (by simp;omega)]
   simp
  obtain⟨arr',hf,h1,h2,h3⟩:=qD size vs (k+1) arr1 (fun x hx=>hs x (by simp[hx])) (by rw[hsz1];exact hkl)
  refine⟨arr',?_,h1.trans hsz1,fun i hi=>?_,fun m x j hm hj=>?_⟩
  ·rw[List.length_cons,List.range'_succ,List.zip_cons_cons]
   simp only[Instr.fill]
   rw[if_neg (by simp;omega)]
   exact hf
  ·rw[h2 i (by rw[Nat.add_mul];omega),hget,if_pos hi]
  ·cases m with
   |zero=>
    simp at hm;subst hm
    rw[Nat.add_zero,h2 _ (by rw[Nat.add_mul];omega),hget,if_neg (by omega),if_pos (by omega)]
    congr 1;omega
   |succ m=>
    have:=h3 m x j (by simpa using hm) hj
    rw[<-this]
    congr 2
    rw[show k+(m+1)=k+1+m from by omega]
theorem nk:∀{css:List (List AV)},jH css=true->∀(i:Nat) cs,css[i]? =some cs->cg cs=true
 |[],_,i,cs,h=>by simp at h
 |c::r,h,i,cs,hi=>by
  simp only[jH] at h
  split at h
  ·rename_i hp
   cases i with
   |zero=>simp at hi;subst hi;exact hp
   |succ i=>exact nk h i cs (by simpa using hi)
  ·simp at h
theorem tA:∀{css:List (List AV)} {ns:List Int},qz css=some ns->ns.map aD=css
 |[],ns,h=>by simp only[qz,Option.some.injEq] at h;subst h;rfl
 |c::r,ns,h=>by
  unfold qz at h
  split at h
  ·rename_i e;cases e
  ·rename_i n r' e
   injection e with e1 e2
   subst e1;subst e2
   split at h
   ·rename_i l hl
    simp only[Option.some.injEq] at h;subst h
    rw[List.map_cons,tA hl];rfl
   ·simp at h
  ·simp at h
theorem yX {css:List (List AV)} {ns:List Int} (h:nh css=some ns):ns.map aD=css:=by
 unfold nh at h
 split at h
 ·cases h
 ·exact tA h
theorem oG (hT:aW P tt=true) {t:TypeId} {len:Nat} {is:List Nat} {dst:Option Tmp} {K:AV->ai->Prop} {us:List AV} {vs:List Value} (h:eY tt t len is us dst M K) (hM:ax S F ρ M w) (hv:be S ρ vs us)
  (hlen:is.length=vs.length):bW P S F ρ w (Instr.buildSlice t len (is.zip vs).toArray) K:=by
 unfold eY at h
 split at h
 ·rename_i d sz0 by0 e z0 ht
  have hte:=TOk.slice hT ht
  split at h
  ·rename_i i hi
   obtain⟨x,z,hx,hxs,hxb,hz,hzc,_,hzl⟩:=TOk.info hT hi
   split at h
   ·rename_i css0 hr hl hle hcs
    have hl:=Nat.eq_of_beq_eq_true hl
    have hle:=Nat.le_of_ble_eq_true hle
    have his:=qC is 0 hr
    obtain⟨hcl,hcsz,hcr⟩:=pp hcs hv
    obtain⟨css,M',S',h,hS',hlen',hcr',hM',_⟩:=tz css0 (vs.map fun v=>v.cells.toList) S M _ h (by simp[hcl,hv.1]) hcr hM
    split at h
    ·rename_i hd
     split at h
     ·rename_i hp
      have hsz:(Go.sizeOf e).run P w= .ok i.size w:=TOk.size hT hi w
      let zero:Array Value:=if len*i.size=0 then#[] else z.cells
      let arr:Array Value:=(Array.range (len*i.size)).map (zero[· % zero.size]!)
      have harr:arr.size=len*i.size:=by simp[arr]
      obtain⟨arr',hf,hs',_,hg'⟩:=qD i.size vs 0 arr hcsz (by rw[harr];simp;rw[<-hlen,hl];exact Nat.le_refl _)
      have his':is=List.range' 0 vs.length:=by rw[<-hlen];exact his
      have hrun:(Instr.buildSlice t len (is.zip vs).toArray).run P w= .ok (.slice (some ⟨w.heap.size,0,none⟩) len len) (w.alloc (.cells arr' e)):=by
       rw[his']
       simp only[Instr.buildSlice,Sem.run_bind,run_underlying hte,Result.andThen_ok,hsz,Sem.run_ite]
       rw[if_neg (by have:(2:Nat)^24=16777216:=(by decide);omega)]
       simp only[Sem.run_pure,Result.andThen_ok,Sem.run_bind,Sem.run_ite]
       by_cases h':len*i.size=0
       ·simp only[arr,zero,h',if_true] at hf
        simp only[h',if_true,Sem.run_pure,Result.andThen_ok,List.toList_toArray,hf,newRow,Sem.run_bind,run_newObj]
        rfl
       ·simp only[arr,zero,h',if_false] at hf
        simp only[h',if_false,zeroValue,typeInfo,Sem.run_bind,run_program,hx,hz,Sem.run_pure,Result.andThen_ok,List.toList_toArray,hf,newRow,run_newObj]
        rfl
      have fin:∀(α:Type) (dd:α) (enc:α->List AV) (l:List α),JE css (l.map enc)->K (.row d len i.size) (M'.set d (.row e dd enc l))->bW P S F ρ w (Instr.buildSlice t len (is.zip vs).toArray) K:=by
       intro α dd enc l hlc hK
       let b:dU:=⟨w.heap.size,len,len,i.size,false⟩
       have hll:l.length=len:=by
        have h1:l.length=css.length:=by rw[Ad hlc];simp
        have h2:vs.length=css.length:=by simpa using hlen'
        omega
       refine⟨_,_,_,S',aw.set ρ d b,_,hrun,hK,hS',aw.set_le _ (hM'.fresh hd),hM'.alloc hd _ e b _ (fun _=>rfl) ?_, .row d len i.size b (aw.set_eq _ _ _) rfl rfl (by simp[b]),ce.alloc_cells _ _ _⟩
       have hcell:∀(k:Nat) a,l[k]? =some a->∃v,vs[k]? =some v/\iY S' v.cells.toList (enc a)/\allOne (enc a)=true:=by
        intro k a hk
        obtain⟨cs,hck,hw⟩:=Ae (j:=k) (u':=enc a) hlc (by rw[List.getElem?_map,hk];rfl)
        have hkl:k<vs.length:=by
         have h1:=(List.getElem?_eq_some_iff.1 hck).1
         have h2:vs.length=css.length:=by simpa using hlen'
         omega
        have hh:=fq (nk hp k _ hck) (hcr' k cs _ hck (by rw[List.getElem?_map,List.getElem?_eq_getElem hkl];rfl))
        exact⟨vs[k],by simp,JG hw hh.1,Af hw hh.2⟩
       refine⟨by simp[b,hll],fun a ha=>?_, .inr ⟨rfl,by simp[b,hll],arr',bw _ _,by rw[hs',harr],fun k a j u hk hu=>?_,ag.inW_size hM'.sw,ag.inW_size hM'.fw⟩⟩
       ·obtain⟨k,hk⟩:=List.getElem?_of_mem ha
        obtain⟨v,hvk,hvr,hpe⟩:=hcell k a hk
        refine⟨?_,hpe⟩
        have h1:=hvr.1
        have h2:=hcsz v (List.mem_of_getElem? hvk)
        simp only[Array.length_toList] at h1
        show(enc a).length=i.size
        omega
       ·obtain⟨v,hvk,hvr,hpe⟩:=hcell k a hk
        have hpr:=hvr
        obtain⟨y,hy,hr⟩:=hpr.2 j u hu
        have hj:j<i.size:=by
         have h1:=(List.getElem?_eq_some_iff.1 hy).1
         have h2:=hcsz v (List.mem_of_getElem? hvk)
         simp only[Array.length_toList] at h1
         omega
        refine⟨y,?_,hr⟩
        have:=hg' k v j hvk hj
        rw[Nat.zero_add] at this
        show arr'[k*i.size+j]? =some y
        rw[this]
        simpa using hy
      split at h
      ·rename_i ns hns
       exact fin Int 0 aD ns (yX hns▸ng _) h
      ·rw[jG] at h
       obtain⟨α,dd,enc,l,hlc,hK⟩:=h
       exact fin α dd enc l hlc hK
     ·exact h.elim
    ·exact h.elim
   ·exact h.elim
  ·exact h.elim
 ·exact h.elim
end
end
section
section
variable {S F:ag} {ρ:aw} {M:ai} {w:World} {P:Program} {tt:TT}
structure wg (S:ag) (w:World) (v:Value) {β:Type} (enc:β->List AV) (l:List β) (sz:Nat) (news:List Value):Prop where
 form:∃base cap,v= .slice base l.length cap/\((base=none/\news=[])\/∃ad,base=some ad/\∀j u,news[j]? =some u->w.cell? (ad.add j)=some u)
 len:news.length=l.length*sz
 szs:∀a∈l,(enc a).length=sz
 one:∀a∈l,allOne (enc a)=true
 vals:∀i a j u,l[i]? =some a->(enc a)[j]? =some u->∃v,news[i*sz+j]? =some v/\RP S v u
theorem wg.of_sl {β:Type} {d:β} {enc:β->List AV} {l:List β} {v:Value} (hS:S.inW w) (h:RP S v (.sl d enc l)) {n:Nat} (hn:(enc (l.getD 0 d)).length=n):∃news,wg S w v enc l n news:=by
 have hall:=DG h hn
 cases h with
 |sl _ _ _ base cap sz vals hcap ho hsz hb hn' hv=>
  by_cases hl:l=[]
  ·subst hl
   refine⟨[],⟨base,cap,rfl,?_⟩,by simp,by simp,by simp,by simp⟩
   cases base with
   |none=>exact .inl ⟨rfl,rfl⟩
   |some a=>exact .inr ⟨a,rfl,by simp⟩
  ·have hpos:0<l.length:=List.length_pos_iff.2 hl
   have hs:sz=n:=by
    have hm:=List.getElem_mem hpos
    rw[<-hsz _ hm,hall _ hm]
   subst hs
   cases base with
   |none=>exact absurd rfl (hn' hl)
   |some ad=>
    by_cases hz:sz=0
    ·subst hz
     refine⟨[],⟨some ad,cap,rfl, .inr ⟨ad,rfl,by simp⟩⟩,by simp,hall,ho,fun i a j u ha hu=>?_⟩
     have:=hall a (List.mem_of_getElem? ha)
     have:=(List.getElem?_eq_some_iff.1 hu).1
     omega
    ·have hzp:0<sz:=by omega
     let news:List Value:=(List.range (l.length*sz)).map fun k=>vals (k / sz) (k % sz)
     have hnews:∀i j,i<l.length->j<sz->news[i*sz+j]? =some (vals i j):=by
      intro i j hi hj
      have hlt:i*sz+j<l.length*sz:=by
       have:(i+1)*sz<=l.length*sz:=Nat.mul_le_mul_right _ (by omega)
       rw[Nat.add_mul] at this;omega
      have h1:(i*sz+j) / sz=i:=by rw[Nat.mul_comm,Nat.mul_add_div hzp,Nat.div_eq_of_lt hj];rfl
      have h2:(i*sz+j) % sz=j:=by rw[Nat.mul_comm,Nat.mul_add_mod];exact Nat.mod_eq_of_lt hj
      simp[news,hlt,h1,h2]
     refine⟨news,⟨some ad,cap,rfl, .inr ⟨ad,rfl,fun k u hk=>?_⟩⟩,by simp[news],hall,ho,fun i a j u ha hu=>?_⟩
     ·have hk':k<l.length*sz:=by have:=(List.getElem?_eq_some_iff.1 hk).1;simpa[news] using this
      have h1:k / sz<l.length:=by rw[Nat.div_lt_iff_lt_mul hzp];exact hk'
      have h2:k % sz<sz:=Nat.mod_lt _ hzp
      obtain⟨ad',e,hc⟩:=hb _ _ h1 h2
      injection e with e;subst e
      have hkk:k / sz*sz+k % sz=k:=by rw[Nat.mul_comm];exact Nat.div_add_mod k sz
      have:=hnews _ _ h1 h2
      rw[hkk] at this hc
      rw[hk] at this
      injection this with this
      rw[this]
      exact ag.cell_w hS hc
     ·have hi:=(List.getElem?_eq_some_iff.1 ha).1
      have hj:j<sz:=by rw[<-hall a (List.mem_of_getElem? ha)];exact(List.getElem?_eq_some_iff.1 hu).1
      exact⟨_,hnews i j hi hj,hv _ _ _ _ ha hu⟩
theorem lW {α:Type} {l:List α} {enc:α->List AV} {vs:Array Value} {sz:Nat} (h:l.length*sz<=vs.size) (hs:∀a∈l,(enc a).length=sz)
  (hc:∀i a j u,l[i]? =some a->(enc a)[j]? =some u->∃v,vs[i*sz+j]? =some v/\RP S v u):
  (vs.toList.take (l.length*sz)).length=l.length*sz/\∀i a j u,l[i]? =some a->(enc a)[j]? =some u->∃v,(vs.toList.take (l.length*sz))[i*sz+j]? =some v/\RP S v u:=by
 refine⟨by simp;omega,fun i a j u ha hu=>?_⟩
 obtain⟨v,hv,hr⟩:=hc i a j u ha hu
 have hi:=(List.getElem?_eq_some_iff.1 ha).1
 have hj:j<sz:=by rw[<-hs a (List.mem_of_getElem? ha)];exact(List.getElem?_eq_some_iff.1 hu).1
 have hlt:i*sz+j<l.length*sz:=by
  have:(i+1)*sz<=l.length*sz:=Nat.mul_le_mul_right _ (by omega)
  rw[Nat.add_mul] at this;omega
 exact⟨v,by rw[List.getElem?_take,if_pos hlt];simpa using hv,hr⟩
theorem Ag {x:AV} {v:Value} {K:(α:Type)->α->(α->List AV)->List α->Prop} (h:sT x M K) (hM:ax S F ρ M w) (hv:RV S ρ v x):
  ∃(β:Type) (d:β) (enc:β->List AV) (l:List β),K β d enc l/\∀n,(enc (l.getD 0 d)).length=n->∃news,wg S w v enc l n news:=by
 unfold sT at h
 split at h
 ·exact⟨_,_,_,_,h,fun n hn=>wg.of_sl hM.sw hv.sl_inv hn⟩
 ·obtain⟨b,hb,_,_,_,rfl⟩:=hv.row_inv
  split at h
  ·rename_i ℓ _ _ t α d enc l hl
   refine⟨_,_,_,_,h,fun n hn=>?_⟩
   obtain⟨b',hb',hlen,hszs,hcase⟩:=hM.blk _ _ hl
   rw[hb] at hb';cases hb'
   rcases hcase with ⟨hnil,rfl,hcap⟩|⟨hnil,hcap,vs,hheap,hvsz,hcell,_⟩
   ·have:b.len=0:=by simpa using hlen
    exact⟨[],⟨none,b.cap,by simp[dU.hdr,hnil,this], .inl ⟨rfl,rfl⟩⟩,by simp,by simp,by simp,by simp⟩
   ·by_cases hl0:l=[]
    ·subst hl0
     have:b.len=0:=by simpa using hlen
     exact⟨[],⟨some ⟨b.blk,0,none⟩,b.cap,by simp[dU.hdr,hnil,this], .inr ⟨_,rfl,by simp⟩⟩,by simp,by simp,by simp,by simp⟩
    ·have hpos:0<l.length:=List.length_pos_iff.2 hl0
     have hs:b.sz=n:=by
      rw[<-hn,<-(hszs _ (List.mem_of_getElem? (cr (d:=d) hpos))).1]
     subst hs
     have hle:l.length*b.sz<=vs.size:=by rw[hvsz];exact Nat.mul_le_mul_right _ hcap
     obtain⟨h1,h2⟩:=lW hle (fun a ha=>(hszs a ha).1) hcell
     refine⟨vs.toList.take (l.length*b.sz),⟨some ⟨b.blk,0,none⟩,b.cap,by simp[dU.hdr,hnil,hlen], .inr ⟨_,rfl,fun j u hj=>?_⟩⟩,h1,fun a ha=>(hszs a ha).1,fun a ha=>(hszs a ha).2,h2⟩
     rw[List.getElem?_take] at hj
     split at hj
     ·rw[Addr.add_mk];simp only[World.cell?,hheap];simpa using hj
     ·simp at hj
  ·rename_i ℓ _ _ α d enc l hl
   obtain⟨b',hb',hlen,hr⟩:=hM.blk _ _ hl
   rw[hb] at hb';cases hb'
   exact⟨_,_,_,_,h,fun n hn=>wg.of_sl hM.sw hr hn⟩
  ·exact h.elim
 ·rename_i b c
  rw[hv.val_inv]
  refine⟨_,_,_,_,h,fun n _=>⟨[],⟨b,c,rfl,?_⟩,by simp,by simp,by simp,by simp⟩⟩
  cases b with
  |none=>exact .inl ⟨rfl,rfl⟩
  |some ad=>exact .inr ⟨ad,rfl,by simp⟩
 ·exact h.elim
theorem wg.run {v:Value} {β:Type} {enc:β->List AV} {l:List β} {sz:Nat} {news:List Value} (h:wg S w v enc l sz news) (k:Nat):(Builtin.firstCells sz l.length v).run P {w with drawn:=k}= .ok news.toArray {w with drawn:=k}:=by
 obtain⟨base,cap,rfl,hb⟩:=h.form
 rcases hb with ⟨rfl,rfl⟩|⟨ad,rfl,hc⟩
 ·exact run_firstCells_none _ _ _ _ _
 ·exact run_firstCells_some _ _ _ _ _ _ _ h.len hc
theorem wg.lenOf {v:Value} {β:Type} {enc:β->List AV} {l:List β} {sz:Nat} {news:List Value} (h:wg S w v enc l sz news):(Builtin.lenOf v).run P w= .ok l.length w:=by
 obtain⟨base,cap,rfl,hb⟩:=h.form
 rfl
theorem uT (z:Array Value) (n:Nat):(Builtin.zeroCells z n).size=n*z.size:=by simp[Builtin.zeroCells]
theorem nl (hT:aW P tt=true) {t t' e:TypeId} {i:TI} (ht:P.underlying t=some (.slice e)) (ht':cZ tt t'=true) (hi:tt.find e=some i) {ty:TypeId}
  {base:Option Addr} {sLen sCap:Nat} {v:Value} {β:Type} {enc:β->List AV} {l:List β} {news olds:List Value} (hx:wg S w v enc l i.size news)
  (hold:∀k,(Builtin.firstCells i.size sLen (.slice base sLen sCap)).run P {w with drawn:=k}= .ok olds.toArray {w with drawn:=k})
  (hneed:sCap<sLen+l.length) (hbyte:(sLen+l.length)*i.bytes<=140737488355328) (hpos:0<i.bytes):
  ∃cap rest,sLen+l.length<=cap/\rest.size=(cap-(sLen+l.length))*i.size/\
   (Builtin.append_ #[t,t'] ty #[.slice base sLen sCap,v]).run P w= .ok (.slice (some ⟨w.heap.size,0,none⟩) (sLen+l.length) cap) (({w with drawn:=w.drawn+1}:World).alloc (.cells (olds.toArray++news.toArray++rest) e)):=by
 obtain⟨e',he'⟩:=cL hT ht'
 obtain⟨x,z,hx',hxs,hxb,hz,hzc,_,hzl⟩:=TOk.info hT hi
 have hzs:z.cells.size=i.size:=by rw[<-Array.length_toList,hzc,hzl]
 let q:Question:= .appendCap (sLen+l.length) sCap e
 let cap:=q.cut (w.tape w.drawn q)
 refine⟨cap,Builtin.zeroCells z.cells (cap-(sLen+l.length)),?_,by rw[uT,hzs],?_⟩
 ·show sLen+l.length<=(sLen+l.length)+_ % _
  omega
 have hsz:∀w,(Go.sizeOf e).run P w= .ok i.size w:=fun w=>TOk.size hT hi w
 have hfit:=growslice_fits (need:=sLen+l.length) (old:=sCap) (bytes:=i.bytes) hneed hbyte
 have hchoose:(choose q).run P w= .ok cap {w with drawn:=w.drawn+1}:=by
  simp[choose,Sem.run,q,Question.forced,cap]
 have hlen:=hx.lenOf (P:=P)
 have hnew:=hx.run (P:=P) (w.drawn+1)
 have hold':=hold (w.drawn+1)
 have hgt:¬(sLen+l.length<=sCap):=by omega
 have hmax:¬(((sLen+l.length:Nat):Int)>IntKind.i64.max/\(False\/i.bytes=0)):=fun hh=>hh.2.elim (fun h=>h) (fun h=>by omega)
 have h48:¬(Builtin.nextslicecap (sLen+l.length) sCap*i.bytes>2^48):=by
  have:(2:Nat)^48=281474976710656:=by decide
  omega
 simp only[Builtin.append_,Sem.run_bind,run_underlying ht,run_underlying he',Result.andThen_ok,hsz,Sem.run_pure,List.getElem?_toArray,List.getElem?_cons_zero,List.getElem?_cons_succ,Bool.false_eq_true,if_false,hlen,hgt,typeInfo,run_program,hx',hxb,Sem.run_ite]
 rw[if_neg (by simpa using hmax)]
 rw[if_neg h48]
 rw[hchoose]
 simp only[Result.andThen_ok,run_askRoom,hold',Bool.not_false,if_true,hnew,zeroValue,typeInfo,Sem.run_bind,run_program,hx',hz,Sem.run_pure,newRow,run_newObj]
 rfl
theorem DM (hT:aW P tt=true) {t t' e:TypeId} {i:TI} (ht:P.underlying t=some (.slice e)) (ht':cZ tt t'=true) (hi:tt.find e=some i) {ty rt:TypeId}
  {g sLen sCap:Nat} {v:Value} {β:Type} {enc:β->List AV} {l:List β} {news:List Value} {cur:Array Value} (hx:wg S w v enc l i.size news)
  (hg:w.heap[g]? =some (.cells cur rt (0,0))) (hcur:cur.size=sCap*i.size) (hone:∀u∈news,u.oneCell'=true) (hneed:sLen+l.length<=sCap):
   (Builtin.append_ #[t,t'] ty #[.slice (some ⟨g,0,none⟩) sLen sCap,v]).run P w= .ok (.slice (some ⟨g,0,none⟩) (sLen+l.length) sCap)
    (w.setRow g (cur.toList.take (sLen*i.size)++news++cur.toList.drop (sLen*i.size+news.length)).toArray):=by
 obtain⟨e',he'⟩:=cL hT ht'
 have hsz:∀w,(Go.sizeOf e).run P w= .ok i.size w:=fun w=>TOk.size hT hi w
 have hlen:=hx.lenOf (P:=P)
 have hnew:(Builtin.firstCells i.size l.length v).run P w= .ok news.toArray w:=hx.run (P:=P) w.drawn
 have hfit:sLen*i.size+news.length<=cur.size:=by
  rw[hx.len,hcur,<-Nat.add_mul];exact Nat.mul_le_mul_right _ hneed
 have hst:=run_storeCells_at P g (sLen*i.size) rt news 0 cur w hg (by simpa using hfit) hone
 simp only[Nat.add_zero] at hst
 simp only[Builtin.append_,Sem.run_bind,run_underlying ht,run_underlying he',Result.andThen_ok,hsz,Sem.run_pure,List.getElem?_toArray,List.getElem?_cons_zero,List.getElem?_cons_succ,Bool.false_eq_true,if_false,hlen,hneed,if_true,Bool.not_false,hnew,Addr.add_mk,Nat.zero_add,hst]
theorem wB (hT:aW P tt=true) {t t' e:TypeId} {i:TI} (ht:P.underlying t=some (.slice e)) (ht':cZ tt t'=true) (hi:tt.find e=some i) {ty rt:TypeId}
  {g o sLen sCap:Nat} {v:Value} {β:Type} {enc:β->List AV} {l:List β} {news:List Value} {cur:Array Value} (hx:wg S w v enc l i.size news)
  (hg:w.heap[g]? =some (.cells cur rt (0,0))) (hfit:o+sLen*i.size+news.length<=cur.size) (hone:∀u∈news,u.oneCell'=true) (hneed:sLen+l.length<=sCap):
   (Builtin.append_ #[t,t'] ty #[.slice (some ⟨g,o,none⟩) sLen sCap,v]).run P w= .ok (.slice (some ⟨g,o,none⟩) (sLen+l.length) sCap)
    (w.setRow g (cur.toList.take (o+sLen*i.size)++news++cur.toList.drop (o+sLen*i.size+news.length)).toArray):=by
 obtain⟨e',he'⟩:=cL hT ht'
 have hsz:∀w,(Go.sizeOf e).run P w= .ok i.size w:=fun w=>TOk.size hT hi w
 have hlen:=hx.lenOf (P:=P)
 have hnew:(Builtin.firstCells i.size l.length v).run P w= .ok news.toArray w:=hx.run (P:=P) w.drawn
 have hst:=run_storeCells_at P g (o+sLen*i.size) rt news 0 cur w hg (by simpa using hfit) hone
 simp only[Nat.add_zero] at hst
 simp only[Builtin.append_,Sem.run_bind,run_underlying ht,run_underlying he',Result.andThen_ok,hsz,Sem.run_pure,List.getElem?_toArray,List.getElem?_cons_zero,List.getElem?_cons_succ,Bool.false_eq_true,if_false,hlen,hneed,if_true,Bool.not_false,hnew,Addr.add_mk,hst]
theorem wg.allOne {v:Value} {β:Type} {enc:β->List AV} {l:List β} {sz:Nat} {news:List Value} (h:wg S w v enc l sz news) {α:Type} {enc':α->List AV} {l'':List α} (hm:l''.map enc'=l.map enc):
  ∀i a j u,l''[i]? =some a->(enc' a)[j]? =some u->∃v,news[i*sz+j]? =some v/\RP S v u:=by
 intro i a j u ha hu
 have hi:(l.map enc)[i]? =some (enc' a):=by rw[<-hm,List.getElem?_map,ha];rfl
 rw[List.getElem?_map] at hi
 obtain⟨y,hy,he⟩:=Option.map_eq_some_iff.1 hi
 exact h.vals i y j u hy (by rw[he];exact hu)
theorem iG {α:Type} {l l'':List α} {enc:α->List AV} {olds news:List Value} {sz:Nat} (ho:olds.length=l.length*sz) (hs:∀a∈l,(enc a).length=sz)
  (h1:∀i a j u,l[i]? =some a->(enc a)[j]? =some u->∃v,olds[i*sz+j]? =some v/\RP S v u)
  (h2:∀i a j u,l''[i]? =some a->(enc a)[j]? =some u->∃v,news[i*sz+j]? =some v/\RP S v u) (rest:List Value):
  ∀i a j u,(l++l'')[i]? =some a->(enc a)[j]? =some u->∃v,(olds++(news++rest))[i*sz+j]? =some v/\RP S v u:=by
 intro i a j u ha hu
 by_cases hi:i<l.length
 ·rw[List.getElem?_append_left hi] at ha
  have hj:j<sz:=by rw[<-hs a (List.mem_of_getElem? ha)];exact(List.getElem?_eq_some_iff.1 hu).1
  have hlt:i*sz+j<olds.length:=by
   have:(i+1)*sz<=l.length*sz:=Nat.mul_le_mul_right _ (by omega)
   rw[Nat.add_mul] at this;omega
  rw[List.getElem?_append_left hlt]
  exact h1 i a j u ha hu
 ·rw[List.getElem?_append_right (by omega)] at ha
  obtain⟨v,hv,hr⟩:=h2 _ a j u ha hu
  have hge:l.length*sz<=i*sz:=Nat.mul_le_mul_right _ (by omega)
  refine⟨v,?_,hr⟩
  rw[List.getElem?_append_right (by omega),ho,show i*sz+j-l.length*sz=(i-l.length)*sz+j from by rw[Nat.sub_mul];omega,
   List.getElem?_append_left (List.getElem?_eq_some_iff.1 hv).1]
  exact hv
theorem qE {v:Value} {β:Type} {enc:β->List AV} {l:List β} {sz:Nat} {news:List Value} (h:wg S w v enc l sz news) (hsz:0<sz):∀u∈news,u.oneCell'=true:=by
 intro u hu
 obtain⟨k,hk⟩:=List.getElem?_of_mem hu
 have hlt:=(List.getElem?_eq_some_iff.1 hk).1
 rw[h.len] at hlt
 have h1:k / sz<l.length:=by rw[Nat.div_lt_iff_lt_mul hsz];exact hlt
 have h2:k % sz<sz:=Nat.mod_lt _ hsz
 have ha:l[k / sz]? =some l[k / sz]:=List.getElem?_eq_getElem h1
 have hl:=h.szs _ (List.getElem_mem h1)
 have hj:(enc l[k / sz])[k % sz]? =some (enc l[k / sz])[k % sz]:=List.getElem?_eq_getElem (by omega)
 obtain⟨x,hx,hr⟩:=h.vals _ _ _ _ ha hj
 have hkk:k / sz*sz+k % sz=k:=by rw[Nat.mul_comm];exact Nat.div_add_mod k sz
 rw[hkk,hk] at hx
 injection hx with hx
 subst hx
 exact uQ (ρ:=fun _=>none) (ke.1 (h.one _ (List.getElem_mem h1)) _ (List.mem_of_getElem? hj)) (.p hr)
end
end
section
section
variable {S F:ag} {ρ:aw} {M:ai} {w:World} {P:Program} {tt:TT}
theorem Ah {v:Value} {β:Type} {enc:β->List AV} {l:List β} {sz:Nat} {news:List Value} (h:wg S w v enc l sz news):∀u∈news,u.oneCell'=true:=by
 by_cases hsz:0<sz
 ·exact qE h hsz
 ·have:sz=0:=by omega
  subst this
  have:=h.len
  simp at this
  subst this
  simp
theorem pU {α β:Type} {enc:α->List AV} {enc':β->List AV} {l:List α} {l':List β} (h:l.map enc=l'.map enc') {p:List AV->Prop} (hp:∀b∈l',p (enc' b)):∀a∈l,p (enc a):=by
 intro a ha
 have:enc a∈l.map enc:=List.mem_map_of_mem ha
 rw[h] at this
 obtain⟨b,hb,e⟩:=List.mem_map.1 this
 rw[<-e];exact hp b hb
theorem ce.draw_alloc (w:World) (n:Nat) (hn:w.drawn<=n) (vs:Array Value) (t:TypeId):ce w (({w with drawn:=n}:World).alloc (.cells vs t)):=
 (ce.drawn w n hn).trans (ce.alloc_cells _ _ _)
theorem mK (hT:aW P tt=true) {ts:List TypeId} {ty:TypeId} {dst:Option Tmp} {K:AV->ai->Prop} {us:List AV} {vs:List Value} (h:fH tt ts us dst M K) (hM:ax S F ρ M w) (hv:be S ρ vs us):
  bW P S F ρ w (Builtin.append_ ts.toArray ty vs.toArray) K:=by
 unfold fH at h
 split at h
 ·rename_i d t t' s x
  obtain⟨vs0,ys,rfl,hs,hv⟩:=hv.cons_inv
  obtain⟨vx,ys,rfl,hx,hv⟩:=hv.cons_inv
  have:=hv.nil_inv;subst this
  split at h
  ·rename_i sz0 by0 e z0 ht ht' hd
   have hte:=TOk.slice hT ht
   split at h
   ·rename_i i hi
    split at h
    ·exact h.elim
    ·rename_i m hbm
     have hbpos:0<i.bytes:=by rw[hbm];omega
     have h':=Ag h hM hx
     clear h
     obtain⟨β,dd',enc',l',h,hsrc⟩:=h'
     split at h
     ·rename_i hsz
      have hsz:=Nat.eq_of_beq_eq_true hsz
      obtain⟨news,hnews⟩:=hsrc _ hsz
      split at h
      ·
       cases hs.nilsl_inv
       rw[bF] at h
       obtain⟨hb,hK⟩:=h
       by_cases hl:l'=[]
       ·subst hl
        let b:dU:=⟨0,0,0,i.size,true⟩
        refine⟨.slice none 0 0,_,_,S,aw.set ρ d b,w,?_,hK,ag.le_refl _,aw.set_le _ (hM.fresh hd),hM.add hd b _ (fun _ _ _ _ _ _ hh=>by cases hh) ?_,?_,ce.refl _⟩
        ·obtain⟨e',he'⟩:=cL hT ht'
         have hlen:=hnews.lenOf (P:=P)
         have hnew:(Builtin.firstCells i.size ([]:List β).length vx).run P w= .ok news.toArray w:=hnews.run (P:=P) w.drawn
         have hsize:=TOk.size hT hi w
         simp only[List.length_nil] at hlen hnew
         simp[Builtin.append_,run_underlying hte,run_underlying he',hsize,hlen,hnew]
        ·exact⟨rfl,by simp, .inl ⟨rfl,rfl,rfl⟩⟩
        ·exact .row d 0 i.size b (aw.set_eq _ _ _) rfl rfl (by simp[b])
       ·have hpos:0<l'.length:=List.length_pos_iff.2 hl
        obtain⟨cap,rest,hcap,hrest,hrun⟩:=nl (P:=P) (ty:=ty) (base:=none) (sLen:=0) (sCap:=0) (olds:=[]) hT hte ht' hi hnews (fun k=>run_firstCells_none _ _ _ _ _) (by omega) (by rw[Nat.zero_add];exact hb) hbpos
        simp only[Nat.zero_add] at hcap hrest hrun
        let b:dU:=⟨w.heap.size,l'.length,cap,i.size,false⟩
        have hM1:=hM.drawn (w.drawn+1)
        refine⟨_,_,_,S,aw.set ρ d b,_,hrun,hK,ag.le_refl _,aw.set_le _ (hM.fresh hd),hM1.alloc hd _ e b _ (fun _=>rfl) ?_, .row d l'.length i.size b (aw.set_eq _ _ _) rfl rfl (by simp[b]),ce.draw_alloc _ _ (Nat.le_succ _) _ _⟩
        refine⟨rfl,fun a ha=>⟨hnews.szs a ha,hnews.one a ha⟩, .inr ⟨rfl,hcap,_,bw _ _,?_,fun k a j u hk hu=>?_,ag.inW_size hM.sw,ag.inW_size hM.fw⟩⟩
        ·simp only[Array.size_append,List.size_toArray,List.length_nil,hnews.len,hrest]
         show 0+l'.length*i.size+(cap-l'.length)*i.size=cap*i.size
         rw[Nat.zero_add,<-Nat.add_mul]
         congr 1;omega
        ·obtain⟨v,hv,hr⟩:=hnews.vals k a j u hk hu
         refine⟨v,?_,hr⟩
         have hlt:=(List.getElem?_eq_some_iff.1 hv).1
         show(([]:List Value).toArray++news.toArray++rest)[k*i.size+j]? =some v
         rw[Array.getElem?_append_left (by simpa using hlt)]
         simpa using hv
      ·
       rename_i α dd enc l
       split at h
       ·rename_i hsz2
        have hsz2:=Nat.eq_of_beq_eq_true hsz2
        rw[bF,iE] at h
        obtain⟨hpos,hbyte,l'',hmap,hK⟩:=h
        obtain⟨base,rfl,hsl⟩:=hs.slc_inv.slc_form
        obtain⟨olds,hso⟩:=wg.of_sl (w:=w) hM.sw hsl hsz2
        have hll:l''.length=l'.length:=by have:=congrArg List.length hmap;simpa using this
        have hcell2:=hnews.allOne hmap
        have hszs':∀a∈l++l'',(enc a).length=i.size/\allOne (enc a)=true:=by
         intro a ha
         rcases List.mem_append.1 ha with ha|ha
         ·exact⟨hso.szs a ha,hso.one a ha⟩
         ·exact pU hmap (p:=fun x=>x.length=i.size/\allOne x=true) (fun y hy=>⟨hnews.szs y hy,hnews.one y hy⟩) a ha
        obtain⟨cap,rest,hcap,hrest,hrun⟩:=nl (P:=P) (ty:=ty) (base:=base) (sLen:=l.length) (sCap:=l.length) (olds:=olds) hT hte ht' hi hnews (fun k=>hso.run (P:=P) k) (by omega) hbyte hbpos
        let c:dU:=⟨w.heap.size,l.length+l'.length,cap,i.size,false⟩
        have hM1:=hM.drawn (w.drawn+1)
        refine⟨_,_,_,S,aw.set ρ d c,_,hrun,hK,ag.le_refl _,aw.set_le _ (hM.fresh hd),hM1.alloc hd _ e c _ (fun _=>rfl) ?_, .row d (l.length+l'.length) i.size c (aw.set_eq _ _ _) rfl rfl (by simp[c]),ce.draw_alloc _ _ (Nat.le_succ _) _ _⟩
        refine⟨by simp[c,hll],hszs', .inr ⟨rfl,by simp[c,hll];omega,_,bw _ _,?_,fun k a j u hk hu=>?_,ag.inW_size hM.sw,ag.inW_size hM.fw⟩⟩
        ·simp only[Array.size_append,List.size_toArray,hso.len,hnews.len,hrest]
         show l.length*i.size+l'.length*i.size+(cap-(l.length+l'.length))*i.size=cap*i.size
         rw[<-Nat.add_mul,<-Nat.add_mul]
         congr 1
         omega
        ·obtain⟨v,hv,hr⟩:=iG (S:=S) hso.len hso.szs hso.vals hcell2 rest.toList k a j u hk hu
         refine⟨v,?_,hr⟩
         show(olds.toArray++news.toArray++rest)[k*i.size+j]? =some v
         rw[<-hv]
         have:olds.toArray++news.toArray++rest=(olds++(news++rest.toList)).toArray:=by apply Array.ext';simp
         rw[this];simp
       ·exact h.elim
      ·
       rename_i ℓ n sz
       split at h
       ·rename_i e' α dd enc l hl hsz'
        have hsz':=Nat.eq_of_beq_eq_true hsz'
        subst hsz'
        obtain⟨b,hb,rfl,hbsz,hz,rfl⟩:=hs.row_inv
        split at h
        ·rename_i hee hxx
         have hee:=Nat.eq_of_beq_eq_true hee
         subst hee
         rw[iE] at h
         obtain⟨hbyte,l'',hmap,hK⟩:=h
         obtain⟨b',hb',hlen,hszs,hcase⟩:=hM.blk _ _ hl
         rw[hb] at hb';cases hb'
         have hll:l''.length=l'.length:=by have:=congrArg List.length hmap;simpa using this
         have hM0:=hM.kill hl
         have hdℓ:d≠ℓ:=fun e=>by subst e;rw[hd] at hl;cases hl
         have hd0:(M.set ℓ .dead) d=none:=by rw[ai.set_ne _ _ hdℓ];exact hd
         have hszs':∀a∈l++l'',(enc a).length=i.size/\allOne (enc a)=true:=by
          intro a ha
          rcases List.mem_append.1 ha with ha|ha
          ·have:=hszs a ha;rw[hbsz] at this;exact this
          ·exact pU hmap (p:=fun x=>x.length=i.size/\allOne x=true) (fun y hy=>⟨hnews.szs y hy,hnews.one y hy⟩) a ha
         have hcell2:=hnews.allOne hmap
         by_cases hroom:b.len+l'.length<=b.cap
         ·rcases hcase with ⟨hnil,rfl,hcap0⟩|⟨hnil,hcap,cur,hheap,hvsz,hcell,hSb,hFb⟩
          ·
           have hl0:l'=[]:=List.eq_nil_of_length_eq_zero (by omega)
           subst hl0
           have hl0':l''=[]:=List.eq_nil_of_length_eq_zero (by simpa using hll)
           subst hl0'
           let c:dU:=⟨0,0,0,i.size,true⟩
           have hbl:b.len=0:=by simpa using hlen
           refine⟨.slice none 0 0,_,_,S,aw.set ρ d c,w,?_,hK,ag.le_refl _,aw.set_le _ (hM.fresh hd),hM0.add hd0 c _ (fun _ _ _ _ _ _ hh=>by cases hh) ?_,?_,ce.refl _⟩
           ·obtain⟨e2,he2⟩:=cL hT ht'
            have hlen':=hnews.lenOf (P:=P)
            have hnew:(Builtin.firstCells i.size ([]:List β).length vx).run P w= .ok news.toArray w:=hnews.run (P:=P) w.drawn
            have hsize:=TOk.size hT hi w
            simp only[List.length_nil] at hlen' hnew
            simp[Builtin.append_,run_underlying hte,run_underlying he2,hsize,hlen',hnew,dU.hdr,hnil,hbl,hcap0]
           ·exact⟨rfl,by simp, .inl ⟨rfl,rfl,rfl⟩⟩
           ·have:=RV.row (S:=S) (ρ:=aw.set ρ d c) d 0 i.size c (aw.set_eq _ _ _) rfl rfl (by simp[c])
            simpa[hbl,dU.hdr,c] using this
          ·rw[hbsz] at hvsz hcell
           have hhdr:b.hdr= .slice (some ⟨b.blk,0,none⟩) b.len b.cap:=by simp[dU.hdr,hnil]
           have hrun:=DM (P:=P) (ty:=ty) (rt:=e') (g:=b.blk) (sLen:=b.len) (sCap:=b.cap) hT hte ht' hi hnews hheap hvsz (Ah hnews) hroom
           let arr:=(cur.toList.take (b.len*i.size)++news++cur.toList.drop (b.len*i.size+news.length)).toArray
           let c:dU:=⟨b.blk,b.len+l'.length,b.cap,i.size,false⟩
           have hMw:ax S F ρ (M.set ℓ .dead) (w.setRow b.blk arr):=hM.upd (B':= .dead) hl hb (fun k hk=>by
            rcases hk with hk|hk
            ·exact setRow_other _ _ _ _ hk
            ·exact absurd hnil hk) (fun hh=>hh.elim) trivial
           have hlw:l.length*i.size<=cur.size:=by rw[hvsz];exact Nat.mul_le_mul_right _ hcap
           refine⟨_,_,_,S,aw.set ρ d c,_,by rw[hhdr];exact hrun,hK,ag.le_refl _,aw.set_le _ (hM.fresh hd),hMw.add hd0 c _ (fun y C k hC hk hL _=>?_) ?_, .row d (b.len+l'.length) i.size c (aw.set_eq _ _ _) rfl rfl (by simp[c]),ce.setRow hheap⟩
           ·by_cases e:y=ℓ
            ·subst e;rw[ai.set_eq] at hC;cases hC;exact hL.elim
            ·rw[ai.set_ne _ _ e] at hC
             exact hM.inj y ℓ C _ k b hC hl hk hb hL (by exact hnil) e
           ·obtain⟨h1,h2⟩:=lW hlw (fun a ha=>by rw[<-hbsz];exact(hszs a ha).1) hcell
            refine⟨by simp[c,hlen,hll],hszs', .inr ⟨rfl,by simp[c,hll];omega,arr,setRow_heap _ _ _ _ _ _ hheap,?_,fun k a j u hk hu=>?_,hSb,hFb⟩⟩
            ·have hfit:b.len*i.size+news.length<=cur.size:=by
              rw[hnews.len,hvsz,<-Nat.add_mul];exact Nat.mul_le_mul_right _ hroom
             simp only[arr,List.size_toArray,List.append_assoc]
             rw[fe (by simpa using hfit)]
             simpa using hvsz
            ·have:=iG (S:=S) h1 (fun a ha=>by rw[<-hbsz];exact(hszs a ha).1) h2 hcell2 (cur.toList.drop (b.len*i.size+news.length)) k a j u hk hu
             obtain⟨v,hv,hr⟩:=this
             refine⟨v,?_,hr⟩
             show arr[k*i.size+j]? =some v
             simp only[arr,List.getElem?_toArray,List.append_assoc,hlen]
             simp only[hlen] at hv
             exact hv
         ·
          have hfirst:∃olds:List Value,olds.length=l.length*i.size/\(∀k,(Builtin.firstCells i.size b.len b.hdr).run P {w with drawn:=k}= .ok olds.toArray {w with drawn:=k})/\
            ∀k a j u,l[k]? =some a->(enc a)[j]? =some u->∃v,olds[k*i.size+j]? =some v/\RP S v u:=by
           rcases hcase with ⟨hnil,rfl,hcap0⟩|⟨hnil,hcap,cur,hheap,hvsz,hcell,hSb,hFb⟩
           ·refine⟨[],by simp,fun k=>?_,by simp⟩
            have:b.hdr= .slice none b.len b.cap:=by simp[dU.hdr,hnil]
            rw[this];exact run_firstCells_none _ _ _ _ _
           ·rw[hbsz] at hvsz hcell
            have hlw:l.length*i.size<=cur.size:=by rw[hvsz];exact Nat.mul_le_mul_right _ hcap
            obtain⟨h1,h2⟩:=lW hlw (fun a ha=>by rw[<-hbsz];exact(hszs a ha).1) hcell
            refine⟨cur.toList.take (l.length*i.size),h1,fun k=>?_,h2⟩
            have:b.hdr= .slice (some ⟨b.blk,0,none⟩) b.len b.cap:=by simp[dU.hdr,hnil]
            rw[this]
            refine run_firstCells_some _ _ _ _ _ _ _ (by rw[h1,hlen]) (fun j v hj=>?_)
            rw[List.getElem?_take] at hj
            split at hj
            ·rw[Addr.add_mk];simp only[World.cell?,hheap];simpa using hj
            ·simp at hj
          obtain⟨olds,ho1,ho2,ho3⟩:=hfirst
          obtain⟨base,hbase⟩:∃base,b.hdr= .slice base b.len b.cap:=⟨_,rfl⟩
          rw[hbase] at ho2
          obtain⟨cap,rest,hcap,hrest,hrun⟩:=nl (P:=P) (ty:=ty) (base:=base) (sLen:=b.len) (sCap:=b.cap) (olds:=olds) hT hte ht' hi hnews ho2 (by omega) (by rw[hlen];exact hbyte) hbpos
          let c:dU:=⟨w.heap.size,b.len+l'.length,cap,i.size,false⟩
          have hM1:=hM0.drawn (w.drawn+1)
          refine⟨_,_,_,S,aw.set ρ d c,_,by rw[hbase];exact hrun,hK,ag.le_refl _,aw.set_le _ (hM.fresh hd),hM1.alloc hd0 _ e' c _ (fun _=>rfl) ?_, .row d (b.len+l'.length) i.size c (aw.set_eq _ _ _) rfl rfl (by simp[c]),ce.draw_alloc _ _ (Nat.le_succ _) _ _⟩
          refine⟨by simp[c,hlen,hll],hszs', .inr ⟨rfl,by simp[c,hll];omega,_,bw _ _,?_,fun k a j u hk hu=>?_,ag.inW_size hM.sw,ag.inW_size hM.fw⟩⟩
          ·simp only[Array.size_append,List.size_toArray,ho1,hnews.len,hrest]
           show l.length*i.size+l'.length*i.size+(cap-(b.len+l'.length))*i.size=cap*i.size
           rw[<-Nat.add_mul,<-Nat.add_mul]
           congr 1
           omega
          ·obtain⟨v,hv,hr⟩:=iG (S:=S) ho1 (fun a ha=>by rw[<-hbsz];exact(hszs a ha).1) ho3 hcell2 rest.toList k a j u hk hu
           refine⟨v,?_,hr⟩
           show(olds.toArray++news.toArray++rest)[k*i.size+j]? =some v
           rw[<-hv]
           have:olds.toArray++news.toArray++rest=(olds++(news++rest.toList)).toArray:=by apply Array.ext';simp
           rw[this];simp
        ·exact h.elim
       ·exact h.elim
      ·exact h.elim
     ·exact h.elim
   ·exact h.elim
  ·exact h.elim
 ·exact h.elim
theorem wC (hT:aW P tt=true) {ts:List TypeId} {ty:TypeId} {dst:Option Tmp} {K:AV->ai->Prop} {ℓ lo n sz:Nat} {x:AV} {vs:List Value} (h:qA tt ts ℓ lo n sz x dst M K) (hM:ax S F ρ M w) (hv:be S ρ vs [.part ℓ lo n sz,x]):
  bW P S F ρ w (Builtin.append_ ts.toArray ty vs.toArray) K:=by
 unfold qA at h
 split at h
 ·rename_i d t t'
  obtain⟨vs0,ys,rfl,hs,hv⟩:=hv.cons_inv
  obtain⟨vx,ys,rfl,hx,hv⟩:=hv.cons_inv
  have:=hv.nil_inv;subst this
  split at h
  ·rename_i sz0 by0 e z0 ht ht' hd
   have hte:=TOk.slice hT ht
   split at h
   ·rename_i i hi
    split at h
    ·exact h.elim
    ·rename_i m hbm
     have hbpos:0<i.bytes:=by rw[hbm];omega
     have h':=Ag h hM hx
     clear h
     obtain⟨β,dd',enc',l',h,hsrc⟩:=h'
     split at h
     ·rename_i hsz
      have hsz:=Nat.eq_of_beq_eq_true hsz
      obtain⟨news,hnews⟩:=hsrc _ hsz
      split at h
      ·rename_i e' α dd enc l hl hsz'
       have hsz':=Nat.eq_of_beq_eq_true hsz'
       subst hsz'
       split at h
       ·rename_i hee hxx
        have hee:=Nat.eq_of_beq_eq_true hee
        subst hee
        rw[bF,iE] at h
        obtain⟨⟨hn0,hln⟩,hbyte,l'',hmap,hK1,hK2⟩:=h
        obtain⟨b,a0,c,hb,hbsz,hlo,ha,hc,rfl⟩:=hs.part_inv
        obtain⟨hnil,rfl⟩:=ha hn0
        have hc:=hc hn0
        obtain⟨b',hb',hlen,hszs,hcase⟩:=hM.blk _ _ hl
        rw[hb] at hb';cases hb'
        have hll:l''.length=l'.length:=by have:=congrArg List.length hmap;simpa using this
        have hM0:=hM.kill hl
        have hdℓ:d≠ℓ:=fun e=>by subst e;rw[hd] at hl;cases hl
        have hd0:(M.set ℓ .dead) d=none:=by rw[ai.set_ne _ _ hdℓ];exact hd
        have hz1:∀a∈l,(enc a).length=i.size/\allOne (enc a)=true:=fun a ha=>by have:=hszs a ha;rw[hbsz] at this;exact this
        have hz2:∀a∈l'',(enc a).length=i.size/\allOne (enc a)=true:=pU hmap (p:=fun x=>x.length=i.size/\allOne x=true) (fun y hy=>⟨hnews.szs y hy,hnews.one y hy⟩)
        have hcell2:=hnews.allOne hmap
        rcases hcase with ⟨h2,_⟩|⟨_,hcap,cur,hheap,hvsz,hcell,hSb,hFb⟩
        ·rw[hnil] at h2;cases h2
        rw[hbsz] at hvsz hcell
        have hlw:l.length*i.size<=cur.size:=by rw[hvsz];exact Nat.mul_le_mul_right _ hcap
        obtain⟨h1,h2⟩:=lW hlw (fun a ha=>(hz1 a ha).1) hcell
        by_cases hroom:n+l'.length<=c
        ·have e0:lo*i.size+n*i.size=l.length*i.size:=by rw[<-Nat.add_mul,hln]
         have hfit:l.length*i.size+news.length<=cur.size:=by
          rw[hnews.len,hvsz,<-Nat.add_mul];exact Nat.mul_le_mul_right _ (by omega)
         have hrun:=wB (P:=P) (ty:=ty) (rt:=e') (g:=b.blk) (o:=lo*i.size) (sLen:=n) (sCap:=c) hT hte ht' hi hnews hheap (by rw[e0];exact hfit) (Ah hnews) hroom
         rw[e0] at hrun
         let arr:=(cur.toList.take (l.length*i.size)++news++cur.toList.drop (l.length*i.size+news.length)).toArray
         let q:dU:=⟨b.blk,b.len+l'.length,b.cap,i.size,false⟩
         have hMw:ax S F ρ (M.set ℓ .dead) (w.setRow b.blk arr):=hM.upd (B':= .dead) hl hb (fun k hk=>by
          rcases hk with hk|hk
          ·exact setRow_other _ _ _ _ hk
          ·exact absurd hnil hk) (fun hh=>hh.elim) trivial
         refine⟨_,_,_,S,aw.set ρ d q,_,by rw[hbsz];exact hrun,hK1,ag.le_refl _,aw.set_le _ (hM.fresh hd),hMw.add hd0 q _ (fun y C k hC hk hL _=>?_) ?_, .part d lo (n+l'.length) i.size q _ _ (aw.set_eq _ _ _) rfl (by show lo+(n+l'.length)<=b.len+l'.length;omega) (fun _=>⟨rfl,rfl⟩) (fun _=>hc),ce.setRow hheap⟩
         ·by_cases e:y=ℓ
          ·subst e;rw[ai.set_eq] at hC;cases hC;exact hL.elim
          ·rw[ai.set_ne _ _ e] at hC
           exact hM.inj y ℓ C _ k b hC hl hk hb hL (by exact hnil) e
         ·refine⟨by simp[q,hlen,hll],fun a ha=>?_, .inr ⟨rfl,by simp[q,hll];omega,arr,setRow_heap _ _ _ _ _ _ hheap,?_,fun k a j u hk hu=>?_,hSb,hFb⟩⟩
          ·rcases List.mem_append.1 ha with ha|ha
           ·exact hz1 a ha
           ·exact hz2 a ha
          ·simp only[arr,List.size_toArray,List.append_assoc]
           rw[fe (by simpa using hfit)]
           simpa using hvsz
          ·obtain⟨v,hv,hr⟩:=iG (S:=S) h1 (fun a ha=>(hz1 a ha).1) h2 hcell2 (cur.toList.drop (l.length*i.size+news.length)) k a j u hk hu
           refine⟨v,?_,hr⟩
           show arr[k*i.size+j]? =some v
           simp only[arr,List.getElem?_toArray,List.append_assoc]
           exact hv
        ·have hdl:(l.drop lo).length=n:=by rw[List.length_drop];omega
         let olds:=(cur.toList.take (l.length*i.size)).drop (lo*i.size)
         have ho1:olds.length=(l.drop lo).length*i.size:=by
          simp only[olds,List.length_drop,h1]
          rw[<-Nat.sub_mul]
         have ho3:∀k a j u,(l.drop lo)[k]? =some a->(enc a)[j]? =some u->∃v,olds[k*i.size+j]? =some v/\RP S v u:=by
          intro k a j u hk hu
          rw[List.getElem?_drop] at hk
          obtain⟨v,hv,hr⟩:=h2 _ a j u hk hu
          refine⟨v,?_,hr⟩
          simp only[olds]
          rw[List.getElem?_drop,<-hv]
          congr 1
          rw[Nat.add_mul];omega
         have ho2:∀k,(Builtin.firstCells i.size n (.slice (some ⟨b.blk,lo*i.size,none⟩) n c)).run P {w with drawn:=k}= .ok olds.toArray {w with drawn:=k}:=by
          intro k
          refine run_firstCells_some _ _ _ _ _ _ _ (by rw[ho1,hdl]) (fun j v hj=>?_)
          simp only[olds] at hj
          rw[List.getElem?_drop,List.getElem?_take] at hj
          split at hj
          ·rw[Addr.add_mk];simp only[World.cell?,hheap];simpa using hj
          ·simp at hj
         obtain⟨cap,rest,hcp,hrest,hrun⟩:=nl (P:=P) (ty:=ty) (base:=some ⟨b.blk,lo*i.size,none⟩) (sLen:=n) (sCap:=c) (olds:=olds) hT hte ht' hi hnews ho2 (by omega)
          (Nat.le_trans (Nat.mul_le_mul_right _ (by omega)) hbyte) hbpos
         let q:dU:=⟨w.heap.size,n+l'.length,cap,i.size,false⟩
         have hM1:=hM0.drawn (w.drawn+1)
         refine⟨_,_,_,S,aw.set ρ d q,_,by rw[hbsz];exact hrun,hK2,ag.le_refl _,aw.set_le _ (hM.fresh hd),hM1.alloc hd0 _ e' q _ (fun _=>rfl) ?_, .part d 0 (n+l'.length) i.size q _ _ (aw.set_eq _ _ _) rfl (by show 0+(n+l'.length)<=n+l'.length;omega) (fun _=>⟨rfl,by rw[Nat.zero_mul]⟩) (fun _=>Nat.zero_add _),ce.draw_alloc _ _ (Nat.le_succ _) _ _⟩
         refine⟨by simp only[q,List.length_append,hdl,hll],fun a ha=>?_, .inr ⟨rfl,by simp only[q,List.length_append,hdl,hll];exact hcp,_,bw _ _,?_,fun k a j u hk hu=>?_,ag.inW_size hM.sw,ag.inW_size hM.fw⟩⟩
         ·rcases List.mem_append.1 ha with ha|ha
          ·exact hz1 a (List.mem_of_mem_drop ha)
          ·exact hz2 a ha
         ·simp only[Array.size_append,List.size_toArray,ho1,hdl,hnews.len,hrest]
          show n*i.size+l'.length*i.size+(cap-(n+l'.length))*i.size=cap*i.size
          rw[<-Nat.add_mul,<-Nat.add_mul]
          congr 1
          omega
         ·obtain⟨v,hv,hr⟩:=iG (S:=S) ho1 (fun a ha=>(hz1 a (List.mem_of_mem_drop ha)).1) ho3 hcell2 rest.toList k a j u hk hu
          refine⟨v,?_,hr⟩
          show(olds.toArray++news.toArray++rest)[k*i.size+j]? =some v
          rw[<-hv]
          have:olds.toArray++news.toArray++rest=(olds++(news++rest.toList)).toArray:=by apply Array.ext';simp
          rw[this];simp
       ·exact h.elim
      ·exact h.elim
     ·exact h.elim
   ·exact h.elim
  ·exact h.elim
 ·exact h.elim
theorem GP (hT:aW P tt=true) {A:Prop} {ts:List TypeId} {ty:TypeId} {dst:Option Tmp} {K:AV->ai->Prop} {us:List AV} {vs:List Value} (h:JH A tt ts us dst M K) (hM:ax S F ρ M w) (hv:be S ρ vs us)
  (hA:A->bW P S F ρ w (Builtin.append_ ts.toArray ty vs.toArray) K):bW P S F ρ w (Builtin.append_ ts.toArray ty vs.toArray) K:=by
 unfold JH at h
 split at h
 ·exact wC hT h hM hv
 ·exact hA h
end
end
section
section
variable {S F:ag} {ρ:aw} {M:ai} {w:World} {P:Program} {tt:TT}
theorem BH (hT:aW P tt=true) {t:TypeId} {dst:Option Tmp} {K:AV->ai->Prop} {us:List AV} {v:Value} (h:qB tt t us dst M K) (hM:ax S F ρ M w) (hv:be S ρ [v] us):bW P S F ρ w (Instr.range t v) K:=by
 unfold qB at h
 split at h
 ·rename_i d s
  obtain⟨y,ys,e,hs,_⟩:=hv.cons_inv
  injection e with e _
  subst e
  cases hs.str_inv
  split at h
  ·rename_i sz by_ z ht hd
   let b:dU:=⟨w.heap.size,0,0,0,false⟩
   refine⟨.pointer (some ⟨w.heap.size,0,none⟩),_,_,S,aw.set ρ d b,w.alloc (.stringIter s 0),?_,h,ag.le_refl _,aw.set_le _ (hM.fresh hd),hM.allocO hd _ b _ (fun _=>rfl) ?_, .ptr d 0 b (aw.set_eq _ _ _),ce.alloc_iter _ _ _⟩
   ·simp only[Instr.range,Sem.run_bind,run_underlying (TOk.string hT ht),Result.andThen_ok,Sem.run_pure,run_newObj]
    rfl
   ·exact⟨bw _ _,ag.inW_size hM.sw,ag.inW_size hM.fw⟩
  ·exact h.elim
 ·exact h.elim
theorem DN {str:Bool} {K:AV->ai->Prop} {us:List AV} {v:Value} {ty:TypeId} (h:wz str us M K) (hM:ax S F ρ M w) (hv:be S ρ [v] us):bW P S F ρ w (Instr.next v str ty) K:=by
 unfold wz at h
 split at h
 ·rename_i ℓ
  obtain⟨y,ys,e,hs,_⟩:=hv.cons_inv
  injection e with e _
  subst e
  obtain⟨b,hb,rfl⟩:=hs.ptr_inv
  split at h
  ·rename_i s pos hl
   obtain⟨b',hb',hr⟩:=hM.blk _ _ hl
   rw[hb] at hb';cases hb'
   obtain⟨hheap,hS,hF⟩:=hr
   have hget:(getObj b.blk).run P w= .ok (.stringIter s pos) w:=by simp[getObj,Sem.run,hheap]
   rw[tx] at h
   by_cases hp:pos<s.size
   ·have hlt:=cu hheap
    refine⟨_,_,_,S,ρ,{w with heap:=w.heap.setIfInBounds b.blk (.stringIter s (pos+(Utf8.decode s pos).2))},?_,h.1 hp,ag.le_refl _,aw.le_refl _,hM.upd hl hb (fun k hk=>?_) (fun _=>trivial) ?_,RV.tup_mk (vs:=[.bool true,goInt pos, .int .i32 ((Utf8.decode s pos).1:Int)]) (.cons (.p (.bool _)) (.cons (.p (.int _ _)) (.cons (.p (.int _ _)) (be.nil _ _)))),?_⟩
    ·simp only[Instr.next,Sem.run_bind,hget,Result.andThen_ok,hp,if_true]
     have hset:(setObj b.blk (.stringIter s (pos+(Utf8.decode s pos).2))).run P w= .ok () {w with heap:=w.heap.setIfInBounds b.blk (.stringIter s (pos+(Utf8.decode s pos).2))}:=by
      simp[setObj,Sem.run,hheap]
     rw[hset]
     rfl
    ·have hne:k≠b.blk:=by
      rcases hk with hk|hk
      ·exact hk
      ·exact absurd trivial hk
     show(w.heap.setIfInBounds b.blk _)[k]? =_
     rw[Array.getElem?_setIfInBounds_ne (fun e=>hne e.symm)]
    ·refine⟨?_,hS,hF⟩
     show(w.heap.setIfInBounds b.blk _)[b.blk]? =_
     rw[Array.getElem?_setIfInBounds_self_of_lt hlt]
    ·refine⟨rfl,rfl,rfl,Nat.le_refl _,by simp,fun a _=>?_⟩
     unfold World.frozen?
     by_cases e:a.block=b.blk
     ·have:(w.heap.setIfInBounds b.blk (.stringIter s (pos+(Utf8.decode s pos).2)))[b.blk]? =some (.stringIter s (pos+(Utf8.decode s pos).2)):=Array.getElem?_setIfInBounds_self_of_lt hlt
      simp only[e,this,hheap]
     ·have:(w.heap.setIfInBounds b.blk (.stringIter s (pos+(Utf8.decode s pos).2)))[a.block]? =w.heap[a.block]?:=Array.getElem?_setIfInBounds_ne (fun h=>e h.symm)
      simp only[this]
   ·refine⟨_,_,M,S,ρ,w,?_,h.2 hp,ag.le_refl _,aw.le_refl _,hM,RV.tup_mk (vs:=[.bool false]) (.cons (.p (.bool _)) (be.nil _ _)),ce.refl _⟩
    simp only[Instr.next,Sem.run_bind,hget,Result.andThen_ok,hp,if_false,Sem.run_pure]
  ·exact h.elim
 ·exact h.elim
theorem wD (hT:aW P tt=true) {ts:List TypeId} {ty:TypeId} {dst:Option Tmp} {K:AV->ai->Prop} {us:List AV} {vs:List Value} (h:la tt ts us dst M K) (hM:ax S F ρ M w) (hv:be S ρ vs us):
  bW P S F ρ w (Builtin.append_ ts.toArray ty vs.toArray) K:=by
 unfold la at h
 split at h
 ·rename_i d t t' n
  obtain⟨v0,vs1,rfl,h0,hv1⟩:=hv.cons_inv
  obtain⟨v1,vs2,rfl,h1,hv2⟩:=hv1.cons_inv
  cases hv2.nil_inv
  cases h0.nilsl_inv
  cases h1.int_inv
  split at h
  ·rename_i sz by_ e z a1 a2 k a3 ht ht' hd
   have hte:=TOk.slice hT ht
   have hti:=TOk.int hT ht'
   split at h
   ·rename_i i hi
    obtain⟨x,z,hx,hxs,hxb,hz,hzc,_,hzl⟩:=TOk.info hT hi
    have hzs:z.cells.size=i.size:=by rw[<-Array.length_toList,hzc,hzl]
    split at h
    ·rename_i m hp hbm
     have hbpos:0<i.bytes:=by rw[hbm];omega
     rw[kc] at h
     obtain⟨⟨h0,_,h2⟩,α,dd,enc,zz,henc,hK⟩:=h
     have hc47:n<=140737488355328:=by
      have:n*1<=n*(i.bytes:Int):=Int.mul_le_mul_of_nonneg_left (by omega) (by omega)
      omega
     have wn:IntKind.i64.wrap n=n:=k8 (by omega)
     have hsz:∀w,(Go.sizeOf e).run P w= .ok i.size w:=fun w=>TOk.size hT hi w
     have n0:¬n<0:=by omega
     have n48:¬(n*(x.bytes:Int)>2^48):=by
      have:(2:Int)^48=281474976710656:=by decide
      rw[hxb];omega
     have hones:∀(k j:Nat) (u:AV) (arr:Array Value),k<n.toNat->(i.zero.map db)[j]? =some u->(∀q,q<n.toNat*i.size->arr[q]? =some (z.cells[q % z.cells.size]!))->∃v,arr[k*i.size+j]? =some v/\RP S v u:=by
      intro k j u arr hk hu harr
      obtain⟨v,hv,hr⟩:=lc (S:=S) hu
      have hj:j<i.size:=by rw[<-hzl];exact(List.getElem?_eq_some_iff.1 hv).1
      have hlt:k*i.size+j<n.toNat*i.size:=by
       have:(k+1)*i.size<=n.toNat*i.size:=Nat.mul_le_mul_right _ (by omega)
       rw[Nat.add_mul] at this;omega
      refine⟨v,?_,hr⟩
      rw[harr _ hlt,hzs,Nat.mul_comm k i.size,Nat.mul_add_mod,Nat.mod_eq_of_lt hj]
      have:z.cells[j]? =some v:=by
       rw[<-hzc] at hv
       simpa using hv
      rw[getElem!_def,this]
     by_cases hn:n.toNat=0
     ·have hn0:n=0:=by omega
      subst hn0
      let b:dU:=⟨0,0,0,i.size,true⟩
      refine⟨.slice none 0 0,_,_,S,aw.set ρ d b,w,?_,hK,ag.le_refl _,aw.set_le _ (hM.fresh hd),hM.add hd b _ (fun _ _ _ _ _ _ hh=>by cases hh) ?_,?_,ce.refl _⟩
      ·simp[Builtin.append_,run_underlying hte,run_underlying hti,hsz,asInt,asIntOf,typeInfo,hx,wn]
      ·exact⟨rfl,by simp, .inl ⟨rfl,rfl,rfl⟩⟩
      ·exact .row d 0 i.size b (aw.set_eq _ _ _) rfl rfl (by simp[b])
     ·let q:Question:= .appendCap (0+n.toNat) 0 e
      let cap:=q.cut (w.tape w.drawn q)
      have hcap:n.toNat<=cap:=by
       show n.toNat<=(0+n.toNat)+_ % _
       omega
      have hchoose:(choose q).run P w= .ok cap {w with drawn:=w.drawn+1}:=by
       simp[choose,Sem.run,q,Question.forced,cap]
      let news:Array Value:=if n.toNat*i.size=0 then#[] else Builtin.zeroCells z.cells n.toNat
      have hnews:news.size=n.toNat*i.size:=by
       simp only[news]
       split
       ·rename_i h;simp[h]
       ·rw[uT,hzs]
      let rest:=Builtin.zeroCells z.cells (cap-(0+n.toNat))
      let b:dU:=⟨w.heap.size,n.toNat,cap,i.size,false⟩
      have hM1:=hM.drawn (w.drawn+1)
      have h48:¬(Builtin.nextslicecap (0+n.toNat) 0*x.bytes>2^48):=by
       have e1:Builtin.nextslicecap (0+n.toNat) 0=n.toNat:=by
        unfold Builtin.nextslicecap
        rw[if_pos (by omega)];omega
       have:(2:Nat)^48=281474976710656:=by decide
       rw[e1,hxb]
       have h3:((n.toNat*i.bytes:Nat):Int)=n*i.bytes:=by rw[Int.natCast_mul];congr 1;omega
       omega
      refine⟨.slice (some ⟨w.heap.size,0,none⟩) n.toNat cap,_,_,S,aw.set ρ d b,({w with drawn:=w.drawn+1}:World).alloc (.cells (#[]++news++rest) e),?_,hK,ag.le_refl _,aw.set_le _ (hM.fresh hd),hM1.alloc hd _ e b _ (fun _=>rfl) ?_, .row d n.toNat i.size b (aw.set_eq _ _ _) rfl rfl (by simp[b]),ce.draw_alloc _ _ (Nat.le_succ _) _ _⟩
      ·have hgt:¬(0+n.toNat<=0):=by omega
       have hmax:¬(((0+n.toNat:Nat):Int)>IntKind.i64.max/\(True\/x.bytes=0)):=fun hh=>by
        have k':IntKind.i64.max=9223372036854775807:=by decide
        have:=hh.1
        omega
       have hfc:∀w:World,(Builtin.firstCells i.size 0 (.slice none 0 0)).run P w= .ok #[] w:=fun w=>rfl
       have hzv:∀w:World,(zeroValue e).run P w= .ok z w:=fun w=>by simp[zeroValue,typeInfo,hx,hz]
       simp only[Builtin.append_,Sem.run_bind,run_underlying hte,run_underlying hti,Result.andThen_ok,hsz,Sem.run_pure,List.getElem?_toArray,List.getElem?_cons_zero,List.getElem?_cons_succ,if_true,asInt,asIntOf,wn,n0,if_false,typeInfo,run_program,hx,n48,hgt,Sem.run_ite]
       rw[if_neg (by simpa using hmax)]
       rw[if_neg h48]
       rw[hchoose]
       simp only[Result.andThen_ok,run_askRoom,hfc,Bool.not_true,Bool.false_eq_true,if_false,Sem.run_ite,Sem.run_bind,hzv,Sem.run_pure]
       by_cases hc:n.toNat*i.size=0
       ·simp only[hc,if_true,Result.andThen_ok,newRow,Sem.run_bind,run_newObj,Sem.run_pure,news,rest,Nat.zero_add]
        rfl
       ·simp only[hc,if_false,Result.andThen_ok,newRow,Sem.run_bind,run_newObj,Sem.run_pure,news,rest,Nat.zero_add]
        rfl
      ·refine⟨by simp[b],fun a ha=>?_, .inr ⟨rfl,by simp[b];omega,_,bw _ _,?_,fun k a j u hk hu=>?_,ag.inW_size hM.sw,ag.inW_size hM.fw⟩⟩
       ·rw[List.eq_of_mem_replicate ha,henc];exact⟨by simpa[b] using hzl,(fq (S:=S) (ρ:=ρ) hp (ep _)).2⟩
       ·simp only[Array.size_append,hnews,rest,uT,hzs]
        show 0+n.toNat*i.size+(cap-(0+n.toNat))*i.size=cap*i.size
        rw[Nat.zero_add,Nat.zero_add,<-Nat.add_mul]
        congr 1;omega
       ·have hk':k<n.toNat:=by have:=(List.getElem?_eq_some_iff.1 hk).1;simpa using this
        have ha:a=zz:=List.eq_of_mem_replicate (List.mem_of_getElem? hk)
        subst ha
        rw[henc] at hu
        refine hones k j u _ hk' hu fun q hq=>?_
        rw[Array.getElem?_append_left (by simp[hnews];exact hq),Array.getElem?_append_right (by simp)]
        simp only[List.size_toArray,List.length_nil,Nat.sub_zero,news]
        rw[if_neg (by omega)]
        simp[Builtin.zeroCells,hzs,hq]
    ·exact h.elim
   ·exact h.elim
  ·exact h.elim
 ·exact h.elim
theorem wE (hT:aW P tt=true) {ts:List TypeId} {ty:TypeId} {dst:Option Tmp} {K:AV->ai->Prop} {us:List AV} {vs:List Value} (h:kM tt ts us dst M K) (hM:ax S F ρ M w) (hv:be S ρ vs us):
  bW P S F ρ w (Builtin.append_ ts.toArray ty vs.toArray) K:=by
 unfold kM at h
 split at h
 ·exact wD hT h hM hv
 ·exact mK hT h hM hv
theorem yY (hT:aW P tt=true) {t:TypeId} {ℓ n sz:Nat} {b:Int} {k:IntKind} {dst:Option Tmp} {K:AV->ai->Prop} {v:Value} (h:uS tt t ℓ n sz b dst M K) (hM:ax S F ρ M w) (hv:RV S ρ v (.row ℓ n sz)):
  bW P S F ρ w (Instr.sliceAt t v none (some (.int k b)) none) K:=by
 unfold uS at h
 split at h
 ·rename_i d sz0 by0 e z0 ht
  have hte:=TOk.slice hT ht
  split at h
  ·rename_i i rt α dd enc l hi hl hd
   rw[bF] at h
   obtain⟨⟨h0,h1⟩,hK⟩:=h
   have hsz:=TOk.size hT hi w
   obtain⟨lb,hb,rfl,rfl,hz,rfl⟩:=hv.row_inv
   obtain⟨b',hb',hlen,hszs,hcase⟩:=hM.blk _ _ hl
   rw[hb] at hb';cases hb'
   have hM0:=hM.kill hl
   have hdℓ:d≠ℓ:=fun e=>by subst e;rw[hd] at hl;cases hl
   have hd0:(M.set ℓ .dead) d=none:=by rw[ai.set_ne _ _ hdℓ];exact hd
   let c:dU:=⟨lb.blk,b.toNat,lb.cap,lb.sz,lb.nil⟩
   have hcap:lb.len<=lb.cap:=by
    rcases hcase with ⟨_,rfl,h2⟩|⟨_,h2,_⟩
    ·simp at hlen;omega
    ·omega
   refine⟨c.hdr,_,_,S,aw.set ρ d c,w,?_,hK,ag.le_refl _,aw.set_le _ (hM.fresh hd),hM0.add hd0 c _ (fun y C q hC hk hL hc=>?_) ?_, .row d b.toNat lb.sz c (aw.set_eq _ _ _) rfl rfl (fun hn=>?_),ce.refl _⟩
   ·have hbc:b<=(lb.cap:Int):=by omega
    simp only[Instr.sliceAt,Instr.slice,Sem.run_bind,run_underlying hte,Result.andThen_ok,dU.hdr,Instr.sliceBounds,Sem.run_pure,Instr.sliceBound,asIntOf,h0,hbc,and_self,if_true,hsz]
    cases hnn:lb.nil
    ·simp[c,Go.Proofs.YtokjgegkhlkopaaGreatDoor.Addr.add_zero,hnn]
    ·simp[c,hnn]
   ·by_cases e:y=ℓ
    ·subst e;rw[ai.set_eq] at hC;cases hC;exact hL.elim
    ·rw[ai.set_ne _ _ e] at hC
     exact hM.inj y ℓ C _ q lb hC hl hk hb hL hc e
   ·refine⟨by simp[c];omega,fun a ha=>hszs a (List.mem_of_mem_take ha),?_⟩
    rcases hcase with ⟨h2,rfl,h3⟩|⟨h2,h3,vs,h4,h5,h6,h7,h8⟩
    ·exact .inl ⟨h2,by simp,h3⟩
    ·refine .inr ⟨h2,by show(l.take b.toNat).length<=lb.cap;simp;omega,vs,h4,h5,fun i a j u hi hu=>?_,h7,h8⟩
     rw[List.getElem?_take] at hi
     split at hi
     ·exact h6 i a j u hi hu
     ·cases hi
   ·have:=hz hn
    show b.toNat=0
    omega
  ·exact h.elim
 ·exact h.elim
theorem wF {α:Type} {l:List α} {lo lo' k:Nat} (h1:lo+k<=l.length) (h2:lo'+k<=l.length):(yV l lo lo' k).length=l.length:=by
 unfold yV
 simp only[List.length_append,List.length_take,List.length_drop]
 omega
theorem DP {α:Type} {l:List α} {lo lo' k:Nat} {a:α} (h:a∈yV l lo lo' k):a∈l:=by
 unfold yV at h
 rcases List.mem_append.1 h with h|h
 ·exact List.mem_of_mem_take h
 ·rcases List.mem_append.1 h with h|h
  ·exact List.mem_of_mem_drop (List.mem_of_mem_take h)
  ·exact List.mem_of_mem_drop h
theorem DQ {α:Type} {l:List α} {lo lo' k:Nat} (h1:lo+k<=l.length) (h2:lo'+k<=l.length) (i:Nat):(yV l lo lo' k)[i]? =if lo<=i/\i<lo+k then l[lo'+(i-lo)]? else l[i]?:=by
 unfold yV
 by_cases hi:i<lo
 ·rw[List.getElem?_append_left (by simp only[List.length_take];omega),List.getElem?_take,if_pos hi,if_neg (by omega)]
 ·rw[List.getElem?_append_right (by simp only[List.length_take];omega)]
  have e:(l.take lo).length=lo:=by simp only[List.length_take];omega
  rw[e]
  by_cases hk:i<lo+k
  ·rw[List.getElem?_append_left (by simp only[List.length_take,List.length_drop];omega),List.getElem?_take,if_pos (by omega),List.getElem?_drop,if_pos ⟨by omega,hk⟩]
  ·rw[List.getElem?_append_right (by simp only[List.length_take,List.length_drop];omega)]
   have e2:((l.drop lo').take k).length=k:=by simp only[List.length_take,List.length_drop];omega
   rw[e2,List.getElem?_drop,if_neg (by omega)]
   congr 1
   omega
theorem BI (hT:aW P tt=true) {t t' ty:TypeId} {ℓ lo n sz ℓ' lo' m sz':Nat} {K:AV->ai->Prop} {v v':Value} (h:yW tt t ℓ lo n sz ℓ' lo' m sz' M K) (hM:ax S F ρ M w) (hv:RV S ρ v (.part ℓ lo n sz)) (hv':RV S ρ v' (.part ℓ' lo' m sz')):
  bW P S F ρ w (Builtin.copy_ #[t,t'] ty #[v,v']) K:=by
 unfold yW at h
 split at h
 ·rename_i e1 e2
  have e1:=Nat.eq_of_beq_eq_true e1
  have e2:=Nat.eq_of_beq_eq_true e2
  subst e1
  subst e2
  split at h
  ·rename_i s0 b0 e z0 rt α d enc l ht hl
   have hte:=TOk.slice hT ht
   split at h
   ·rename_i i hi
    split at h
    ·rename_i hsz
     have hsz:=Nat.eq_of_beq_eq_true hsz
     rw[bF] at h
     obtain⟨⟨hn0,hm0⟩,hK⟩:=h
     obtain⟨b,a,c,hb,hbs,hlo,ha,_,rfl⟩:=hv.part_inv
     obtain⟨b',a',c',hb',hbs',hlo',ha',_,rfl⟩:=hv'.part_inv
     rw[hb] at hb';cases hb'
     obtain⟨hnil,rfl⟩:=ha hn0
     obtain⟨_,rfl⟩:=ha' hm0
     obtain⟨b',hb',hlen,hszs,hcase⟩:=hM.blk _ _ hl
     rw[hb] at hb';cases hb'
     have hsizeOf:=TOk.size hT hi w
     rcases hcase with ⟨h2,_⟩|⟨_,hcap,cur,hheap,hvsz,hcell,hSb,hFb⟩
     ·rw[hnil] at h2;cases h2
     obtain⟨k,hk⟩:∃k,k=Nat.min m n:=⟨_,rfl⟩
     rw[<-hk] at hK
     have hkm:k<=m:=by rw[hk];exact Nat.min_le_left _ _
     have hkn:k<=n:=by rw[hk];exact Nat.min_le_right _ _
     have q1:lo+k<=l.length:=by omega
     have q2:lo'+k<=l.length:=by omega
     have hcs:l.length*b.sz<=cur.size:=by rw[hvsz];exact Nat.mul_le_mul_right _ hcap
     have hdl:((cur.toList.drop (lo'*b.sz)).take (k*b.sz)).length=k*b.sz:=by
      have:(lo'+k)*b.sz<=l.length*b.sz:=Nat.mul_le_mul_right _ q2
      rw[Nat.add_mul] at this
      simp only[List.length_take,List.length_drop,Array.length_toList]
      omega
     obtain⟨news,hnews⟩:∃news,news=(cur.toList.drop (lo'*b.sz)).take (k*b.sz):=⟨_,rfl⟩
     rw[<-hnews] at hdl
     have hget:∀j,j<k*b.sz->news[j]? =cur[lo'*b.sz+j]?:=fun j hj=>by
      rw[hnews,List.getElem?_take,if_pos hj,List.getElem?_drop,Array.getElem?_toList]
     have hfc:(Builtin.firstCells i.size k (.slice (some ⟨b.blk,lo'*b.sz,none⟩) m c')).run P w= .ok news.toArray w:=by
      refine run_firstCells_some _ _ _ _ _ _ _ (by rw[hdl,hsz,hbs]) fun j v hj=>?_
      have hjl:=(List.getElem?_eq_some_iff.1 hj).1
      rw[hget j (by omega)] at hj
      rw[Addr.add_mk]
      simp only[World.cell?,hheap]
      exact hj
     have hone:∀u∈news,u.oneCell'=true:=by
      intro u hu
      obtain⟨j,hj⟩:=List.getElem?_of_mem hu
      have hjl:=(List.getElem?_eq_some_iff.1 hj).1
      rw[hdl] at hjl
      have hpos:0<b.sz:=by
       rcases Nat.eq_zero_or_pos b.sz with h0|h0
       ·rw[h0,Nat.mul_zero] at hjl;omega
       ·exact h0
      have h1:j / b.sz<k:=by rw[Nat.div_lt_iff_lt_mul hpos];exact hjl
      have h2:j % b.sz<b.sz:=Nat.mod_lt _ hpos
      obtain⟨x,hx⟩:∃x,l[lo'+j / b.sz]? =some x:=⟨l[lo'+j / b.sz]'(by omega),List.getElem?_eq_getElem (by omega)⟩
      obtain⟨g1,g2⟩:=hszs x (List.mem_of_getElem? hx)
      obtain⟨y,hy⟩:∃y,(enc x)[j % b.sz]? =some y:=⟨(enc x)[j % b.sz]'(by omega),List.getElem?_eq_getElem (by omega)⟩
      obtain⟨v,hv1,hv2⟩:=hcell _ _ _ _ hx hy
      have e3:(lo'+j / b.sz)*b.sz+j % b.sz=lo'*b.sz+j:=by
       rw[Nat.add_mul,Nat.add_assoc]
       congr 1
       rw[Nat.mul_comm]
       exact Nat.div_add_mod _ _
      rw[e3] at hv1
      rw[hget j hjl] at hj
      have hcu:cur[lo'*b.sz+j]? =some v:=hv1
      rw[hj] at hcu
      cases hcu
      exact uQ (ρ:=fun _=>none) (ke.1 g2 _ (List.mem_of_getElem? hy)) (.p hv2)
     have hst:=run_storeCells_at P b.blk (lo*b.sz) rt news 0 cur w hheap (by
      rw[hdl]
      have:(lo+k)*b.sz<=l.length*b.sz:=Nat.mul_le_mul_right _ q1
      rw[Nat.add_mul] at this
      omega) hone
     refine⟨.int .i64 (k:Int),_,_,S,ρ,_,?_,hK,ag.le_refl _,aw.le_refl _,hM.upd hl hb (w':=w.setRow b.blk (cur.toList.take (lo*b.sz+0)++news++cur.toList.drop (lo*b.sz+0+news.length)).toArray) (fun q hq=>?_) (fun hh=>hh) ?_, .p (.int _ _),ce.setRow hheap⟩
     ·simp only[Builtin.copy_,Sem.run_bind,List.getElem?_toArray,List.getElem?_cons_zero,List.getElem?_cons_succ,run_underlying hte,Result.andThen_ok,Sem.run_pure,Builtin.lenOf,hsizeOf,<-hk,hfc,hst]
      rfl
     ·rcases hq with hq|hq
      ·exact setRow_other _ _ _ _ hq
      ·exact absurd hnil hq
     ·refine⟨by rw[wF q1 q2];exact hlen,fun a ha=>hszs a (DP ha), .inr ⟨hnil,by rw[wF q1 q2];exact hcap,_,setRow_heap _ _ _ _ _ _ hheap,?_,fun q a j u hq hu=>?_,hSb,hFb⟩⟩
      ·have:(lo+k)*b.sz<=l.length*b.sz:=Nat.mul_le_mul_right _ q1
       rw[Nat.add_mul] at this
       simp only[List.size_toArray,List.length_append,List.length_take,List.length_drop,Array.length_toList]
       omega
      ·rw[DQ q1 q2] at hq
       have hj:j<b.sz:=by
        have hjl:=(List.getElem?_eq_some_iff.1 hu).1
        have:a∈l:=by
         split at hq
         ·exact List.mem_of_getElem? hq
         ·exact List.mem_of_getElem? hq
        have:=(hszs a this).1
        omega
       simp only[Nat.add_zero,List.getElem?_toArray]
       have hT1:(cur.toList.take (lo*b.sz)).length=lo*b.sz:=by
        have:lo*b.sz<=l.length*b.sz:=Nat.mul_le_mul_right _ (by omega)
        simp only[List.length_take,Array.length_toList]
        omega
       split at hq
       ·rename_i hin
        obtain⟨v,hv1,hv2⟩:=hcell _ _ _ _ hq hu
        refine⟨v,?_,hv2⟩
        have e4:q*b.sz=lo*b.sz+(q-lo)*b.sz:=by rw[<-Nat.add_mul];congr 1;omega
        have e5:(q-lo)*b.sz+j<k*b.sz:=by
         have:(q-lo+1)*b.sz<=k*b.sz:=Nat.mul_le_mul_right _ (by omega)
         rw[Nat.add_mul,Nat.one_mul] at this
         omega
        rw[List.append_assoc,List.getElem?_append_right (by rw[hT1];omega),hT1,List.getElem?_append_left (by rw[hdl];omega),show q*b.sz+j-lo*b.sz=(q-lo)*b.sz+j by omega,hget _ e5]
        rw[Nat.add_mul,Nat.add_assoc] at hv1
        exact hv1
       ·rename_i hout
        obtain⟨v,hv1,hv2⟩:=hcell _ _ _ _ hq hu
        refine⟨v,?_,hv2⟩
        by_cases hlt:q<lo
        ·have:(q+1)*b.sz<=lo*b.sz:=Nat.mul_le_mul_right _ (by omega)
         rw[Nat.add_mul,Nat.one_mul] at this
         rw[List.append_assoc,List.getElem?_append_left (by rw[hT1];omega),List.getElem?_take,if_pos (by omega),Array.getElem?_toList]
         exact hv1
        ·have:(lo+k)*b.sz<=q*b.sz:=Nat.mul_le_mul_right _ (by omega)
         rw[Nat.add_mul] at this
         rw[List.getElem?_append_right (by rw[List.length_append,hT1,hdl];omega),List.length_append,hT1,hdl,List.getElem?_drop,show lo*b.sz+k*b.sz+(q*b.sz+j-(lo*b.sz+k*b.sz))=q*b.sz+j by omega,Array.getElem?_toList]
         exact hv1
    ·exact h.elim
   ·exact h.elim
  ·exact h.elim
 ·exact h.elim
theorem DR (hT:aW P tt=true) {ts:List TypeId} {ty:TypeId} {K:AV->ai->Prop} {us:List AV} {vs:List Value} (h:DK tt ts us M K) (hM:ax S F ρ M w) (hv:be S ρ vs us):
  bW P S F ρ w (Builtin.copy_ ts.toArray ty vs.toArray) K:=by
 unfold DK at h
 split at h
 ·rename_i t t' ℓ n sz β dd' enc' l'
  obtain⟨v0,vs1,rfl,h0,hv1⟩:=hv.cons_inv
  obtain⟨v1,vs2,rfl,h1,hv2⟩:=hv1.cons_inv
  cases hv2.nil_inv
  split at h
  ·rename_i s0 b0 e z0 rt α d enc l ht hl
   have hte:=TOk.slice hT ht
   split at h
   ·rename_i i hi
    split at h
    ·rename_i hsz hsz'
     have hsz:=Nat.eq_of_beq_eq_true hsz
     have hsz':=Nat.eq_of_beq_eq_true hsz'
     obtain⟨b,hb,hn,hbs,hz,rfl⟩:=h0.row_inv
     obtain⟨b',hb',hlen,hszs,hcase⟩:=hM.blk _ _ hl
     rw[hb] at hb';cases hb'
     obtain⟨news,hnews⟩:=wg.of_sl (w:=w) hM.sw h1.sl_inv hsz'
     have hsizeOf:=TOk.size hT hi w
     have hlenv:=hnews.lenOf (P:=P)
     have hfc:(Builtin.firstCells i.size l'.length v1).run P w= .ok news.toArray w:=hnews.run (P:=P) w.drawn
     rcases h.out with ⟨hll,l'',hmap,hK⟩|⟨rfl,hK⟩
     rotate_left
     ·have hl0:b.len=0:=by simpa using hlen
      have hmin:Nat.min l'.length b.len=0:=by rw[hl0];exact Nat.min_zero _
      have hf0:(Builtin.firstCells i.size 0 v1).run P w= .ok #[] w:=by
       obtain⟨base,cap,rfl,hbase⟩:=hnews.form
       cases base with
       |none=>exact run_firstCells_none _ _ _ _ _
       |some ad=>exact run_firstCells_some _ _ _ _ _ _ [] (by simp) (fun j v hj=>by simp at hj)
      refine⟨.int .i64 0,_,_,S,ρ,w,?_,hK,ag.le_refl _,aw.le_refl _,hM, .p (.int _ _),ce.refl _⟩
      simp only[Builtin.copy_,dU.hdr,Sem.run_bind,List.getElem?_toArray,List.getElem?_cons_zero,List.getElem?_cons_succ,run_underlying hte,Result.andThen_ok,Sem.run_pure,hlenv,hmin,hsizeOf,hf0]
      cases b.nil<;>rfl
     have hl2:l''.length=l'.length:=by have:=congrArg List.length hmap;simpa only[List.length_map] using this
     have hmin:Nat.min l'.length b.len=l'.length:=Nat.min_eq_left (by omega)
     rcases hcase with ⟨hnil,rfl,hcap⟩|⟨hnil,hcap,cur,hheap,hvsz,hcell,hSb,hFb⟩
     ·have e2:l''=[]:=List.eq_nil_of_length_eq_zero (by simp only[List.length_nil] at hll;omega)
      subst e2
      refine⟨.int .i64 (l'.length:Int),_,_,S,ρ,w,?_,hK,ag.le_refl _,aw.le_refl _,hM.upd hl hb (fun _ _=>rfl) (fun hh=>hh) ⟨by simpa using hlen,by simp, .inl ⟨hnil,by simp,hcap⟩⟩, .p (.int _ _),ce.refl _⟩
      simp only[Builtin.copy_,dU.hdr,Sem.run_bind,List.getElem?_toArray,List.getElem?_cons_zero,List.getElem?_cons_succ,run_underlying hte,Result.andThen_ok,Sem.run_pure,hlenv,hmin,hsizeOf,hfc,hnil,if_true]
      rfl
     ·have hfit:news.length<=cur.size:=by
       rw[hnews.len,hvsz,hbs,hsz]
       exact Nat.mul_le_mul_right _ (by omega)
      have hone:∀u∈news,u.oneCell'=true:=by
       by_cases hz0:0<i.size
       ·exact qE hnews hz0
       ·have:news.length=0:=by rw[hnews.len,show i.size=0 by omega,Nat.mul_zero]
        rw[List.eq_nil_of_length_eq_zero this];simp
      have hst:=run_storeCells_at P b.blk 0 rt news 0 cur w hheap (by simpa using hfit) hone
      refine⟨.int .i64 (l'.length:Int),_,_,S,ρ,_,?_,hK,ag.le_refl _,aw.le_refl _,hM.upd hl hb (w':=w.setRow b.blk (cur.toList.take (0+0)++news++cur.toList.drop (0+0+news.length)).toArray) (fun k hk=>?_) (fun hh=>hh) ?_, .p (.int _ _),ce.setRow hheap⟩
      ·simp only[Builtin.copy_,dU.hdr,Sem.run_bind,List.getElem?_toArray,List.getElem?_cons_zero,List.getElem?_cons_succ,run_underlying hte,Result.andThen_ok,Sem.run_pure,hlenv,hmin,hsizeOf,hfc,hnil,Bool.false_eq_true,if_false,hst]
       rfl
      ·rcases hk with hk|hk
       ·exact setRow_other _ _ _ _ hk
       ·exact absurd hnil hk
      ·have hlN:(l''++l.drop l'.length).length=l.length:=by rw[List.length_append,List.length_drop];omega
       refine⟨by omega,fun a ha=>?_, .inr ⟨hnil,by omega,_,setRow_heap _ _ _ _ _ _ hheap,?_,fun k a j u hk hu=>?_,hSb,hFb⟩⟩
       ·rcases List.mem_append.1 ha with ha|ha
        ·have:=pU hmap (p:=fun x=>x.length=i.size/\allOne x=true) (fun y hy=>⟨hnews.szs y hy,hnews.one y hy⟩) a ha
         rw[hbs,<-hsz];exact this
        ·exact hszs a (List.mem_of_mem_drop ha)
       ·simp only[List.size_toArray,List.length_append,List.length_take,List.length_drop,Array.length_toList]
        omega
       ·simp only[Nat.add_zero,List.take_zero,List.nil_append,List.getElem?_toArray,Nat.zero_add]
        by_cases hkl:k<l''.length
        ·rw[List.getElem?_append_left hkl] at hk
         rw[hbs,<-hsz]
         obtain⟨v,hv,hr⟩:=hnews.allOne hmap k a j u hk hu
         refine⟨v,?_,hr⟩
         have hlt:=(List.getElem?_eq_some_iff.1 hv).1
         rw[List.getElem?_append_left hlt]
         exact hv
        ·rw[List.getElem?_append_right (by omega),List.getElem?_drop,show l'.length+(k-l''.length)=k by omega] at hk
         obtain⟨v,hv,hr⟩:=hcell k a j u hk hu
         refine⟨v,?_,hr⟩
         have hnl:news.length=l'.length*b.sz:=by rw[hnews.len,hbs,hsz]
         have hge:l'.length*b.sz<=k*b.sz:=Nat.mul_le_mul_right _ (by omega)
         rw[List.getElem?_append_right (by omega),List.getElem?_drop,show news.length+(k*b.sz+j-news.length)=k*b.sz+j by omega,Array.getElem?_toList]
         exact hv
    ·exact h.elim
   ·exact h.elim
  ·exact h.elim
 ·rename_i t t' ℓ lo n sz ℓ' lo' m sz'
  obtain⟨v0,vs1,rfl,h0,hv1⟩:=hv.cons_inv
  obtain⟨v1,vs2,rfl,h1,hv2⟩:=hv1.cons_inv
  cases hv2.nil_inv
  exact BI hT h hM h0 h1
 ·exact h.elim
end
end
section
def DS:AV->Option Value
 | .int k n=>some (.int k n)
 | .bool b=>some (.bool b)
 | .str s=>some (.string s)
 |_=>none
def Ai:List AV->Option (List Value)
 |[]=>some []
 |u::us=>match DS u with
  |some v=>match Ai us with
   |some vs=>some (v::vs)
   |none=>none
  |none=>none
def wG:AV->Option Value
 | .agg cs=>match Ai cs with
  |some vs=>some (.agg vs.toArray)
  |none=>none
 |u=>DS u
def vA:Value->AV
 | .agg vs=> .agg (vs.toList.map db)
 |v=>db v
def zA (i:TI):AV:=
 match i.kind.isAgg with
 |true=> .agg (i.zero.map db)
 |false=>match i.zero with
  |[v]=>db v
  |_=> .top
def JK (ok:Bool) (u:AV) (b:Bool):AV:=
 match ok with
 |true=> .tup [u, .bool b]
 |false=>u
open Classical in
noncomputable def fJ {κ β:Type} (f:κ->Option β) (k:κ) (b:β):κ->Option β:=fun x=>if x=k then some b else f x
theorem ip {κ β:Type} (f:κ->Option β) (k:κ) (b:β):fJ f k b k=some b:=by simp[fJ]
theorem ja {κ β:Type} (f:κ->Option β) {k x:κ} (b:β) (h:x≠k):fJ f k b x=f x:=by simp[fJ,h]
structure mB (P:Program) (kt:TypeId) {κ:Type} (ek:κ->Value):Prop where
 inj:∀a b,ek a=ek b->a=b
 chk:∀e k w,(Instr.checkKey e 10000 kt (ek k)).run P w= .ok () w
 find:∀k (es:List MapEntry) w,(∀e∈es,∃k',e.key=ek k')->
  ∃r:Option (Nat×Value),(Instr.findKey kt (ek k) es).run P w= .ok r w/\(∀i v,r=some (i,v)->∃e,es[i]? =some e/\e.key=ek k/\e.val=v)/\(r=none->∀e∈es,e.key≠ek k)
 bits:∀k,Instr.sameBits 10000 (ek k) (ek k)=true
structure LN (d:Nat) (M:ai) (K:AV->ai->Prop):Prop where
 out:∃(κ β:Type) (ek:κ->Value) (ev:β->Value),K (.mp d) (M.set d (.map ek ev fun _=>none))
theorem GQ {d:Nat} {M:ai} {K:AV->ai->Prop} {κ β:Type} (ek:κ->Value) (ev:β->Value) (h:K (.mp d) (M.set d (.map ek ev fun _=>none))):LN d M K:=⟨⟨κ,β,ek,ev,h⟩⟩
structure IQ (P:Program) (kt:TypeId) {κ β:Type} (ek:κ->Value) (f:κ->Option β) (u:AV) (k1:β->Prop) (k2:Prop):Prop where
 out:mB P kt ek/\∃k,wG u=some (ek k)/\(∀b,f k=some b->k1 b)/\(f k=none->k2)
theorem Aj {P:Program} {kt:TypeId} {κ β:Type} {ek:κ->Value} {f:κ->Option β} {u:AV} {k1:β->Prop} {k2:Prop} (hk:mB P kt ek) (k:κ) (hu:wG u=some (ek k)) (h1:∀b,f k=some b->k1 b) (h2:f k=none->k2):IQ P kt ek f u k1 k2:=⟨⟨hk,k,hu,h1,h2⟩⟩
structure LO (P:Program) (kt:TypeId) {κ β:Type} (ek:κ->Value) (ev:β->Value) (u x:AV) (K:κ->β->Prop):Prop where
 out:mB P kt ek/\∃k b,wG u=some (ek k)/\wG x=some (ev b)/\K k b
theorem GR {P:Program} {kt:TypeId} {κ β:Type} {ek:κ->Value} {ev:β->Value} {u x:AV} {K:κ->β->Prop} (hk:mB P kt ek) (k:κ) (b:β) (hu:wG u=some (ek k)) (hx:wG x=some (ev b)) (h:K k b):LO P kt ek ev u x K:=⟨⟨hk,k,b,hu,hx,h⟩⟩
structure yZ (A B:Prop):Prop where
 out:A\/B
theorem DU {A B:Prop} (h:A):yZ A B:=⟨.inl h⟩
theorem JL {A B:Prop} (h:B):yZ A B:=⟨.inr h⟩
def JM (dst:Option Tmp) (M:ai) (K:AV->ai->Prop):Prop:=
 match dst with
 |some d=>match M d with
  |none=>LN d M K
  |some _=>False
 |none=>False
def DV (P:Program) (tt:TT) (t:TypeId) (ok:Bool) (us:List AV) (M:ai) (K:AV->ai->Prop):Prop:=
 match us with
 |[.mp ℓ,u]=>match tt.find t,M ℓ with
  |some ⟨_,_, .map kt e,_⟩,some (.map ek ev f)=>match tt.find e with
   |some i=>IQ P kt ek f u (fun b=>mJ (JK ok (vA (ev b)) true) fun x=>K x M) (mJ (JK ok (zA i) false) fun x=>K x M)
   |none=>False
  |_,_=>False
 |_=>False
def JN (P:Program) (tt:TT) (t:TypeId) (us:List AV) (M:ai) (K:ai->Prop):Prop:=
 match us with
 |[.mp ℓ,u,x]=>match tt.find t,M ℓ with
  |some ⟨_,_, .map kt _,_⟩,some (.map ek ev f)=>LO P kt ek ev u x fun k b=>K (M.set ℓ (.map ek ev (fJ f k b)))
  |_,_=>False
 |_=>False
structure LP {α:Type} (enc:α->List AV) (l:List α) (K:List Int->Prop):Prop where
 out:∃ns:List Int,l.map enc=ns.map (fun n=>[AV.int .u8 n])/\K ns
theorem ND {α:Type} {enc:α->List AV} {l:List α} {K:List Int->Prop} (ns:List Int) (h:l.map enc=ns.map (fun n=>[AV.int .u8 n])) (hk:K ns):LP enc l K:=⟨⟨ns,h,hk⟩⟩
def JO (tt:TT) (s d:TypeId) (ℓ:Nat) (M:ai) (K:AV->ai->Prop):Prop:=
 match tt.find s with
 |some ⟨_,_, .slice e,_⟩=>match tt.find e,tt.find d,M ℓ with
  |some ⟨_,_, .int .u8,_⟩,some ⟨_,_, .string,_⟩,some (.row _ _ enc l)=>LP enc l fun ns=>K (.str (strOfNums ns)) M
  |_,_,_=>False
 |_=>False
def Ak (tt:TT) (t:TypeId) (ℓ n sz:Nat) (lo hi:Int) (M:ai) (K:AV->ai->Prop):Prop:=
 match tt.find t with
 |some ⟨_,_, .slice e,_⟩=>match tt.find e,M ℓ with
  |some i,some (.row _ _ _ _)=>match Nat.beq i.size sz with
   |true=>gJ (0<=lo/\lo<=hi/\hi<=n) (K (.part ℓ lo.toNat (hi-lo).toNat sz) M)
   |false=>False
  |_,_=>False
 |_=>False
def y3 (tt:TT) (t:TypeId) (ℓ lo n sz:Nat) (a:Int) (M:ai) (K:AV->ai->Prop):Prop:=
 match tt.find t with
 |some ⟨_,_, .slice e,_⟩=>match tt.find e,M ℓ with
  |some i,some (.row _ _ _ _)=>match Nat.beq i.size sz with
   |true=>gJ (0<=a/\a<=n/\0<n) (K (.part ℓ (lo+a.toNat) (n-a.toNat) sz) M)
   |false=>False
  |_,_=>False
 |_=>False
section
variable {S F:ag} {ρ:aw} {M:ai} {w:World} {P:Program} {tt:TT}
theorem wH {u:AV} {x v:Value} (h:DS u=some x) (hv:RV S ρ v u):v=x:=by
 cases u with
 |int k n=>cases h;exact hv.int_inv
 |bool b=>cases h;exact hv.bool_inv
 |str s=>cases h;exact hv.str_inv
 |_=>cases h
theorem wI:∀{us:List AV} {xs vs:List Value},Ai us=some xs->be S ρ vs us->vs=xs
 |[],xs,vs,h,hv=>by cases h;exact hv.nil_inv
 |u::us,xs,vs,h,hv=>by
  obtain⟨v,vs',rfl,h1,h2⟩:=hv.cons_inv
  unfold Ai at h
  split at h
  ·rename_i x hx
   split at h
   ·rename_i ys hy
    cases h
    rw[wH hx h1,wI hy h2]
   ·cases h
  ·cases h
theorem uU {u:AV} {x v:Value} (h:wG u=some x) (hv:RV S ρ v u):v=x:=by
 unfold wG at h
 split at h
 ·rename_i cs
  obtain⟨vs,rfl,hr⟩:=hv.agg_inv
  split at h
  ·rename_i ys hy
   cases h
   have:=wI hy hr
   rw[<-this]
  ·cases h
 ·exact wH h hv
theorem LQ (v:Value):RV S ρ v (vA v):=by
 unfold vA
 split
 ·rename_i vs
  have:=RV.agg_mk (S:=S) (ρ:=ρ) (ep (S:=S) (ρ:=ρ) vs.toList)
  simpa using this
 ·exact .p (jE v)
theorem LR (hT:aW P tt=true) {t:TypeId} {i:TI} (h:tt.find t=some i) (w:World):∃z,(zeroValue t).run P w= .ok z w/\RV S ρ z (zA i):=by
 obtain⟨x,z,hx,hxs,hxb,hz,hzc,hag,hzl⟩:=TOk.info hT h
 refine⟨z,by simp[zeroValue,typeInfo,hx,hz],?_⟩
 unfold zA
 split
 ·rename_i hk
  rw[hk] at hag
  cases z<;>first|(simp[GI] at hag;done)|skip
  rename_i cs
  have e:cs.toList=i.zero:=hzc
  rw[<-e]
  have:=RV.agg_mk (S:=S) (ρ:=ρ) (ep (S:=S) (ρ:=ρ) cs.toList)
  simpa using this
 ·rename_i hk
  split
  ·rename_i v hv
   rw[hk] at hag
   have e:z.cells.toList=[v]:=hzc.trans hv
   have:z=v:=by
    cases z<;>first|(simp[GI] at hag;done)|(simp[Value.cells] at e;exact e)
   rw[this]
   exact .p (jE v)
  ·exact .p (.top _)
def JP (ok:Bool) (v:Value) (b:Bool):Value:=if ok then .tuple #[v, .bool b] else v
theorem Al (ok:Bool) {v:Value} {u:AV} (b:Bool) (h:RV S ρ v u):RV S ρ (JP ok v b) (JK ok u b):=by
 cases ok with
 |false=>exact h
 |true=>exact RV.tup_mk (vs:=[v, .bool b]) (.cons h (.cons (.p (.bool b)) (be.nil _ _)))
theorem TOk.map (hT:aW P tt=true) {t k e:TypeId} {a b:Nat} {z:List Value} (h:tt.find t=some ⟨a,b, .map k e,z⟩):P.underlying t=some (.map k e):=by
 have:=TOk.kind hT h
 unfold iA at this
 split at this<;>simp_all
theorem GS {w:World} {k:Nat} {es es':Array MapEntry} {c c':Nat} (h:w.heap[k]? =some (.map es c)):ce w {w with heap:=w.heap.setIfInBounds k (.map es' c')}:=by
 have hk:k<w.heap.size:=(Array.getElem?_eq_some_iff.1 h).1
 refine⟨rfl,rfl,rfl,Nat.le_refl _,by simp,fun a _=>?_⟩
 unfold World.frozen?
 by_cases e:a.block=k
 ·have:(w.heap.setIfInBounds k (.map es' c'))[k]? =some (.map es' c'):=Array.getElem?_setIfInBounds_self_of_lt hk
  simp only[e,this,h]
 ·have:(w.heap.setIfInBounds k (.map es' c'))[a.block]? =w.heap[a.block]?:=Array.getElem?_setIfInBounds_ne (fun h=>e h.symm)
  simp only[this]
theorem GT {t:TypeId} {dst:Option Tmp} {K:AV->ai->Prop} (h:JM dst M K) (hM:ax S F ρ M w):bW P S F ρ w (Instr.makeMap t none) K:=by
 unfold JM at h
 split at h
 ·rename_i d
  split at h
  ·rename_i hd
   obtain⟨κ,β,ek,ev,hK⟩:=h.out
   let b:dU:=⟨w.heap.size,0,0,0,false⟩
   refine⟨.map (some w.heap.size),_,_,S,aw.set ρ d b,w.alloc (.map #[] 0),?_,hK,ag.le_refl _,aw.set_le _ (hM.fresh hd),hM.allocO hd _ b _ (fun _=>rfl) ?_, .mp d b (aw.set_eq _ _ _),?_⟩
   ·simp only[Instr.makeMap,Sem.run_bind,Result.andThen_ok,Sem.run_pure,run_newObj]
    rfl
   ·exact⟨#[],0,bw _ _,⟨by simp,by simp,fun k b h=>by cases h⟩,ag.inW_size hM.sw,ag.inW_size hM.fw⟩
   ·refine⟨rfl,rfl,rfl,Nat.le_refl _,by show w.heap.size<=(w.heap.push _).size;simp,fun a ha=>?_⟩
    unfold World.frozen?
    rw[io _ _ _ ha]
  ·exact h.elim
 ·exact h.elim
theorem DW (hT:aW P tt=true) {t:TypeId} {ok:Bool} {us:List AV} {K:AV->ai->Prop} {vm vk:Value} (h:DV P tt t ok us M K) (hM:ax S F ρ M w) (hv:be S ρ [vm,vk] us):
  bW P S F ρ w (Instr.lookup t vm vk ok) K:=by
 unfold DV at h
 split at h
 ·rename_i ℓ u
  obtain⟨v0,vs1,e,h0,hv1⟩:=hv.cons_inv
  obtain⟨v1,vs2,e',h1,_⟩:=hv1.cons_inv
  subst e'
  simp only[List.cons.injEq] at e
  obtain⟨rfl,rfl,_⟩:=e
  obtain⟨b,hb,rfl⟩:=h0.mp_inv
  split at h
  ·rename_i kt e _ κ β ek ev f ht hl
   split at h
   ·rename_i i hi
    obtain⟨hk,k,hu,hf1,hf2⟩:=h.out
    obtain⟨b',hb',es,ck,hh,⟨nd,hs1,hs2⟩,hS,hF⟩:=hM.blk _ _ hl
    rw[hb] at hb';cases hb'
    have hkey:=uU hu h1
    subst hkey
    have hg:(getObj b.blk).run P w= .ok (.map es ck) w:=by simp[getObj,Sem.run,hh]
    obtain⟨r,hr,hr1,hr2⟩:=hk.find k es.toList w (fun e he=>let ⟨k',_,h,_⟩:=hs1 e he;⟨k',h⟩)
    have hmt:=TOk.map hT ht
    cases r with
    |none=>
     have hn:f k=none:=by
      cases hfk:f k with
      |none=>rfl
      |some b=>obtain⟨e,he,hke⟩:=hs2 k b hfk;exact absurd hke (hr2 rfl e he)
     have hK:=hf2 hn
     rw[aP] at hK
     obtain⟨z,hz,hzr⟩:=LR (S:=S) (ρ:=ρ) hT hi w
     refine⟨JP ok z false,_,M,S,ρ,w,?_,hK,ag.le_refl _,aw.le_refl _,hM,Al ok false hzr,ce.refl _⟩
     simp only[Instr.lookup,Sem.run_bind,run_underlying hmt,Result.andThen_ok,hg,Sem.run_pure,hk.chk,hr,hz]
     cases ok<;>rfl
    |some p=>
     obtain⟨j,v⟩:=p
     obtain⟨e,he,hke,hve⟩:=hr1 j v rfl
     obtain⟨k',b',hk1,hk2,hk3⟩:=hs1 e (List.mem_of_getElem? he)
     have:k'=k:=hk.inj _ _ (hk1.symm.trans hke)
     subst this
     have hK:=hf1 b' hk2
     rw[aP] at hK
     refine⟨JP ok v true,_,M,S,ρ,w,?_,hK,ag.le_refl _,aw.le_refl _,hM,Al ok true ?_,ce.refl _⟩
     ·simp only[Instr.lookup,Sem.run_bind,run_underlying hmt,Result.andThen_ok,hg,Sem.run_pure,hk.chk,hr]
      cases ok<;>rfl
     ·rw[<-hve,hk3];exact LQ _
   ·exact h.elim
  ·exact h.elim
 ·exact h.elim
theorem BJ {l:List Value} (h:l.Nodup) {i j:Nat} {a:Value} (hi:l[i]? =some a) (hj:l[j]? =some a):i=j:=by
 have h1:=(List.getElem?_eq_some_iff.1 hi).1
 exact(List.getElem?_inj h1 h).1 (hi.trans hj.symm)
theorem GU (hT:aW P tt=true) {t:TypeId} {us:List AV} {K:ai->Prop} {vm vk vx:Value} (h:JN P tt t us M K) (hM:ax S F ρ M w) (hv:be S ρ [vm,vk,vx] us):
  nj P S F ρ w (Instr.mapUpdate t vm vk vx) K:=by
 unfold JN at h
 split at h
 ·rename_i ℓ u x
  obtain⟨v0,vs1,e,h0,hv1⟩:=hv.cons_inv
  obtain⟨v1,vs2,e',h1,hv2⟩:=hv1.cons_inv
  obtain⟨v2,vs3,e'',h2,_⟩:=hv2.cons_inv
  subst e''
  subst e'
  simp only[List.cons.injEq] at e
  obtain⟨rfl,rfl,rfl,_⟩:=e
  obtain⟨b,hb,rfl⟩:=h0.mp_inv
  split at h
  ·rename_i kt _ _ κ β ek ev f ht hl
   obtain⟨hk,k,y,hu,hx,hK⟩:=h.out
   obtain⟨b',hb',es,ck,hh,⟨nd,hs1,hs2⟩,hS,hF⟩:=hM.blk _ _ hl
   rw[hb] at hb';cases hb'
   have hkey:=uU hu h1
   subst hkey
   have hval:=uU hx h2
   subst hval
   have hg:(getObj b.blk).run P w= .ok (.map es ck) w:=by simp[getObj,Sem.run,hh]
   obtain⟨r,hr,hr1,hr2⟩:=hk.find k es.toList w (fun e he=>let ⟨k',_,h,_⟩:=hs1 e he;⟨k',h⟩)
   have hmt:=TOk.map hT ht
   have hlt:=cu hh
   have fin:∀(es':Array MapEntry) (c':Nat),(Instr.mapUpdate t (.map (some b.blk)) (ek k) (ev y)).run P w= .ok () {w with heap:=w.heap.setIfInBounds b.blk (.map es' c')}->
     Dp ek ev (fJ f k y) es'->nj P S F ρ w (Instr.mapUpdate t (.map (some b.blk)) (ek k) (ev y)) K:=by
    intro es' c' hrun hrep
    refine⟨_,S,ρ,_,hrun,hK,ag.le_refl _,aw.le_refl _,hM.upd hl hb (fun q hq=>?_) (fun _=>trivial) ?_,GS hh⟩
    ·have hne:q≠b.blk:=by
      rcases hq with hq|hq
      ·exact hq
      ·exact absurd trivial hq
     show(w.heap.setIfInBounds b.blk _)[q]? =_
     rw[Array.getElem?_setIfInBounds_ne (fun e=>hne e.symm)]
    ·refine⟨es',c',?_,hrep,hS,hF⟩
     show(w.heap.setIfInBounds b.blk _)[b.blk]? =_
     rw[Array.getElem?_setIfInBounds_self_of_lt hlt]
   have hset:∀o:Obj,(setObj b.blk o).run P w= .ok () {w with heap:=w.heap.setIfInBounds b.blk o}:=by
    intro o;simp[setObj,Sem.run,hh]
   cases r with
   |none=>
    have hno:=hr2 rfl
    refine fin (es.push {key:=ek k,val:=ev y,born:=ck}) (ck+1) ?_ ⟨?_,fun e he=>?_,fun k' b' hk'=>?_⟩
    ·simp only[Instr.mapUpdate,Sem.run_bind,run_underlying hmt,Result.andThen_ok,hg,hk.chk,hr,hset]
    ·rw[Array.toList_push,List.map_append,List.nodup_append]
     refine⟨nd,by simp,fun a ha c hc=>?_⟩
     simp only[List.map_cons,List.map_nil,List.mem_singleton] at hc
     subst hc
     obtain⟨e,he,rfl⟩:=List.mem_map.1 ha
     exact hno e he
    ·rw[Array.toList_push,List.mem_append,List.mem_singleton] at he
     rcases he with he|rfl
     ·obtain⟨k',b',q1,q2,q3⟩:=hs1 e he
      refine⟨k',b',q1,?_,q3⟩
      rw[ja _ _ (fun e'=>hno e he (by rw[q1,e'])),q2]
     ·exact⟨k,y,rfl,ip _ _ _,rfl⟩
    ·by_cases e':k'=k
     ·subst e';exact⟨_,by rw[Array.toList_push];exact List.mem_append_right _ (List.mem_singleton.2 rfl),rfl⟩
     ·rw[ja _ _ e'] at hk'
      obtain⟨e,he,q⟩:=hs2 k' b' hk'
      exact⟨e,by rw[Array.toList_push];exact List.mem_append_left _ he,q⟩
   |some p=>
    obtain⟨j,v⟩:=p
    obtain⟨e,he,hke,hve⟩:=hr1 j v rfl
    have hej:es[j]? =some e:=by simpa using he
    have hnew:∀q,(es.modify j fun e=>{e with key:=ek k,val:=ev y}).toList[q]? =if q=j then some {e with key:=ek k,val:=ev y} else es.toList[q]?:=by
     intro q
     rw[Array.getElem?_toList,Array.getElem?_modify]
     by_cases e':q=j
     ·subst e';simp[hej]
     ·rw[if_neg (fun h=>e' h.symm),if_neg e'];simp
    have hkeys:(es.modify j fun e=>{e with key:=ek k,val:=ev y}).toList.map (·.key)=es.toList.map (·.key):=by
     apply List.ext_getElem?
     intro q
     rw[List.getElem?_map,List.getElem?_map,hnew q]
     by_cases e':q=j
     ·subst e';rw[if_pos rfl,he];simp[hke]
     ·rw[if_neg e']
    refine fin (es.modify j fun e=>{e with key:=ek k,val:=ev y}) ck ?_ ⟨?_,fun e2 he2=>?_,fun k' b' hk'=>?_⟩
    ·have hst:(Instr.keyThatStays (((es[j]?).map (·.key)).getD (ek k)) (ek k)).run P w= .ok (ek k) w:=by
      rw[hej]
      simp only[Option.map_some,Option.getD_some,Instr.keyThatStays,hke,hk.bits,if_true,Sem.run_pure]
     simp only[Instr.mapUpdate,Sem.run_bind,run_underlying hmt,Result.andThen_ok,hg,hk.chk,hr,hst,hset]
    ·rw[hkeys];exact nd
    ·obtain⟨q,hq⟩:=List.getElem?_of_mem he2
     rw[hnew q] at hq
     by_cases e':q=j
     ·rw[if_pos e'] at hq
      cases hq
      exact⟨k,y,rfl,ip _ _ _,rfl⟩
     ·rw[if_neg e'] at hq
      obtain⟨k',b',q1,q2,q3⟩:=hs1 e2 (List.mem_of_getElem? hq)
      refine⟨k',b',q1,?_,q3⟩
      rw[ja,q2]
      intro ek'
      refine e' (BJ nd (a:=ek k) ?_ ?_)
      ·rw[List.getElem?_map,hq];simp[q1,ek']
      ·rw[List.getElem?_map,he];simp[hke]
    ·by_cases e':k'=k
     ·subst e'
      exact⟨_,List.mem_of_getElem? ((hnew j).trans (if_pos rfl)),rfl⟩
     ·rw[ja _ _ e'] at hk'
      obtain⟨e2,he2,q⟩:=hs2 k' b' hk'
      obtain⟨m,hm⟩:=List.getElem?_of_mem he2
      have hmj:m≠j:=fun h=>by
       subst h
       rw[he] at hm
       cases hm
       exact e' (hk.inj _ _ (q.symm.trans hke))
      exact⟨e2,List.mem_of_getElem? ((hnew m).trans ((if_neg hmj).trans hm)),q⟩
  ·exact h.elim
 ·exact h.elim
theorem TOk.strT (hT:aW P tt=true) {t:TypeId} {a b:Nat} {z:List Value} (h:tt.find t=some ⟨a,b, .string,z⟩):P.underlying t=some .string:=by
 have:=TOk.kind hT h
 unfold iA at this
 split at this<;>simp_all
theorem GV (hT:aW P tt=true) {s d:TypeId} {ℓ n sz:Nat} {K:AV->ai->Prop} {v:Value} (h:JO tt s d ℓ M K) (hM:ax S F ρ M w) (hv:RV S ρ v (.row ℓ n sz)):bW P S F ρ w (convert s d v) K:=by
 unfold JO at h
 split at h
 ·rename_i a1 a2 e a3 hs
  have hse:=TOk.slice hT hs
  split at h
  ·rename_i b1 b2 b3 c1 c2 c3 rt α dd enc l he hd hM'
   have heu:=TOk.int hT he
   have hdu:=TOk.strT hT hd
   obtain⟨ns,hns,hK⟩:=h.out
   obtain⟨lb,hb,rfl,rfl,hz,rfl⟩:=hv.row_inv
   obtain⟨b',hb',hlen,hszs,hcase⟩:=hM.blk _ _ hM'
   rw[hb] at hb';cases hb'
   have hnl:ns.length=l.length:=by
    have:=congrArg List.length hns
    simpa using this.symm
   rcases hcase with ⟨hnil,rfl,hcap⟩|⟨hnil,hcap,vs,hheap,hsize,hcell,hS,hF⟩
   ·have hn0:ns=[]:=List.eq_nil_of_length_eq_zero (by simpa using hnl)
    subst hn0
    refine⟨_,_,M,S,ρ,w,?_,hK,ag.le_refl _,aw.le_refl _,hM, .p (.str _),ce.refl _⟩
    have:lb.hdr= .slice none 0 0:=by
     simp at hlen
     simp only[dU.hdr,hnil,if_true,hlen,hcap]
    rw[this,run_convert_bytes_string w s d e none 0 0 hse heu hdu]
    simp[Conv.bytesToString]
    rfl
   ·have hat:∀i (hi:i<l.length),∃x,enc l[i]=[AV.int .u8 x]/\ns[i]? =some x:=fun i hi=>by
     have h1:=congrArg (fun q=>q[i]?) hns
     simp only[List.getElem?_map,List.getElem?_eq_getElem hi,Option.map_some] at h1
     rw[List.getElem?_eq_getElem (by omega:i<ns.length)] at h1⊢
     simp only[Option.map_some,Option.some.injEq] at h1
     exact⟨_,h1,rfl⟩
    by_cases hl0:l.length=0
    ·have hn0:ns=[]:=List.eq_nil_of_length_eq_zero (by omega)
     subst hn0
     refine⟨_,_,M,S,ρ,w,?_,hK,ag.le_refl _,aw.le_refl _,hM, .p (.str _),ce.refl _⟩
     have hh:lb.hdr= .slice (some ⟨lb.blk,0,none⟩) 0 lb.cap:=by simp only[dU.hdr,hnil,hlen,hl0];rfl
     rw[hh]
     exact run_convert_bytes_arg w s e hse heu lb.blk 0 0 lb.cap [] rfl (fun i hi=>by omega) d hdu
    ·have hsz1:lb.sz=1:=by
      obtain⟨x,hx,_⟩:=hat 0 (by omega)
      have:=(hszs _ (List.getElem_mem (by omega:0<l.length))).1
      rw[hx] at this
      exact this.symm
     rw[hsz1] at hcell hsize
     refine⟨_,_,M,S,ρ,w,?_,hK,ag.le_refl _,aw.le_refl _,hM, .p (.str _),ce.refl _⟩
     have hh:lb.hdr= .slice (some ⟨lb.blk,0,none⟩) l.length lb.cap:=by simp only[dU.hdr,hnil,hlen];rfl
     rw[hh]
     refine run_convert_bytes_arg w s e hse heu lb.blk 0 l.length lb.cap ns hnl (fun i hi=>?_) d hdu
     obtain⟨x,hx,hxn⟩:=hat i hi
     obtain⟨v,h1,h2⟩:=hcell i l[i] 0 (.int .u8 x) (List.getElem?_eq_getElem hi) (by rw[hx];rfl)
     cases h2
     rw[Nat.zero_add]
     simp only[World.cell?,hheap]
     have:ns.getD i 0=x:=by rw[List.getD_eq_getElem?_getD,hxn];rfl
     rw[this]
     simpa using h1
  ·exact h.elim
 ·exact h.elim
theorem wJ (hT:aW P tt=true) {t:TypeId} {ℓ n sz:Nat} {lo hi:Int} {kl kh:IntKind} {K:AV->ai->Prop} {v:Value} (h:Ak tt t ℓ n sz lo hi M K) (hM:ax S F ρ M w) (hv:RV S ρ v (.row ℓ n sz)) {vl vh:Option Value}
  (hl:vl=some (.int kl lo)\/(vl=none/\lo=0)) (hh:vh=some (.int kh hi)\/(vh=none/\hi=n)):bW P S F ρ w (Instr.sliceAt t v vl vh none) K:=by
 unfold Ak at h
 split at h
 ·rename_i a1 a2 e a3 ht
  have hte:=TOk.slice hT ht
  split at h
  ·rename_i i rt α dd enc l hi' hM'
   split at h
   ·rename_i hs
    have hs:=Nat.eq_of_beq_eq_true hs
    rw[bF] at h
    obtain⟨⟨h0,h1,h2⟩,hK⟩:=h
    obtain⟨lb,hb,rfl,rfl,hz,rfl⟩:=hv.row_inv
    obtain⟨b',hb',hlen,hszs,hcase⟩:=hM.blk _ _ hM'
    rw[hb] at hb';cases hb'
    have hsz:=TOk.size hT hi' w
    have hcap:lb.len<=lb.cap:=by
     rcases hcase with ⟨_,rfl,h2⟩|⟨_,h2,_⟩
     ·simp at hlen;omega
     ·omega
    have hnil:0<lb.len->lb.nil=false:=fun hp=>by
     cases hn:lb.nil with
     |false=>rfl
     |true=>have:=hz hn;omega
    let base:Option Addr:=if lb.nil then none else some ⟨lb.blk,0,none⟩
    refine⟨.slice (if lb.cap=lo.toNat then base else base.map (·.add (lo.toNat*i.size))) (hi.toNat-lo.toNat) (lb.cap-lo.toNat),_,M,S,ρ,w,?_,hK,ag.le_refl _,aw.le_refl _,hM,?_,ce.refl _⟩
    ·have e1:hi<=(lb.cap:Int):=by omega
     have e2:0<=hi:=by omega
     have e3:lo<=(hi.toNat:Int):=by omega
     rcases hl with rfl|⟨rfl,rfl⟩<;>rcases hh with rfl|⟨rfl,rfl⟩
     ·simp only[Instr.sliceAt,Instr.slice,Sem.run_bind,run_underlying hte,Result.andThen_ok,dU.hdr,Instr.sliceBounds,Sem.run_pure,Instr.sliceBound,asIntOf,h0,e1,e2,e3,and_self,if_true,hsz,base]
      try rfl
     ·have e3':lo<=(lb.len:Int):=by omega
      simp only[Instr.sliceAt,Instr.slice,Sem.run_bind,run_underlying hte,Result.andThen_ok,dU.hdr,Instr.sliceBounds,Sem.run_pure,Instr.sliceBound,asIntOf,h0,e3',and_self,if_true,hsz,base,Int.toNat_natCast]
      try rfl
     ·simp only[Instr.sliceAt,Instr.slice,Sem.run_bind,run_underlying hte,Result.andThen_ok,dU.hdr,Instr.sliceBounds,Sem.run_pure,Instr.sliceBound,asIntOf,e1,e2,and_self,if_true,hsz,base]
      try rfl
     ·simp only[Instr.sliceAt,Instr.slice,Sem.run_bind,run_underlying hte,Result.andThen_ok,dU.hdr,Instr.sliceBounds,Sem.run_pure,hsz,base,Int.toNat_natCast]
      try rfl
    ·have en:(hi-lo).toNat=hi.toNat-lo.toNat:=by omega
     rw[en]
     refine .part ℓ lo.toNat _ lb.sz lb _ _ hb rfl (by omega) (fun hp=>?_) fun hp=>by omega
     have hn:=hnil (by omega)
     refine⟨hn,?_⟩
     rw[if_neg (by omega)]
     simp only[base,hn,Bool.false_eq_true,if_false,Option.map_some,Addr.add_mk,Nat.zero_add,hs]
   ·exact h.elim
  ·exact h.elim
 ·exact h.elim
theorem BK (hT:aW P tt=true) {t:TypeId} {ℓ lo n sz:Nat} {z:Int} {k:IntKind} {K:AV->ai->Prop} {v:Value} (h:y3 tt t ℓ lo n sz z M K) (hM:ax S F ρ M w) (hv:RV S ρ v (.part ℓ lo n sz)):
  bW P S F ρ w (Instr.sliceAt t v (some (.int k z)) none none) K:=by
 unfold y3 at h
 split at h
 ·rename_i a1 a2 e a3 ht
  have hte:=TOk.slice hT ht
  split at h
  ·rename_i i rt α dd enc l hi' hM'
   split at h
   ·rename_i hs
    have hs:=Nat.eq_of_beq_eq_true hs
    rw[bF] at h
    obtain⟨⟨h0,h1,hn0⟩,hK⟩:=h
    obtain⟨lb,ad,c,hb,rfl,hlo,ha,hc,rfl⟩:=hv.part_inv
    obtain⟨hnil,rfl⟩:=ha hn0
    have hc:=hc hn0
    obtain⟨b',hb',hlen,hszs,hcase⟩:=hM.blk _ _ hM'
    rw[hb] at hb';cases hb'
    have hsz:=TOk.size hT hi' w
    have hcap:lb.len<=lb.cap:=by
     rcases hcase with ⟨_,rfl,h2⟩|⟨_,h2,_⟩
     ·simp at hlen;omega
     ·omega
    let base:Option Addr:=some ⟨lb.blk,lo*lb.sz,none⟩
    refine⟨.slice (if c=z.toNat then base else base.map (·.add (z.toNat*i.size))) (n-z.toNat) (c-z.toNat),_,M,S,ρ,w,?_,hK,ag.le_refl _,aw.le_refl _,hM,?_,ce.refl _⟩
    ·simp only[Instr.sliceAt,Instr.slice,Sem.run_bind,run_underlying hte,Result.andThen_ok,Instr.sliceBounds,Sem.run_pure,Instr.sliceBound,asIntOf,h0,h1,and_self,if_true,hsz,base,Int.toNat_natCast]
     try rfl
    ·refine .part ℓ (lo+z.toNat) _ lb.sz lb _ _ hb rfl (by omega) (fun hp=>?_) fun hp=>by omega
     refine⟨hnil,?_⟩
     rw[if_neg (by omega)]
     simp only[base,Option.map_some,Addr.add_mk,hs,Nat.add_mul]
   ·exact h.elim
  ·exact h.elim
 ·exact h.elim
end
section
variable {P:Program}
theorem qF {kd:TypeDesc} {κ:Type} {ek:κ->Value} (heq:∀a b,∃r,Instr.sameNow kd (ek a) (ek b)=some r/\(r=true↔ek a=ek b)) (k:κ):
  ∀(es:List MapEntry) (i:Nat),(∀e∈es,∃k',e.key=ek k')->∃r:Option (Nat×Value),Instr.findNow kd (ek k) es i=some r/\(∀j v,r=some (j,v)->∃m e,j=i+m/\es[m]? =some e/\e.key=ek k/\e.val=v)/\(r=none->∀e∈es,e.key≠ek k)
 |[],i,_=>⟨none,rfl,fun _ _ h=>(by cases h),fun _ e he=>(by cases he)⟩
 |e::es,i,h=>by
  obtain⟨k',hk'⟩:=h e List.mem_cons_self
  obtain⟨r,hr,hr'⟩:=heq k k'
  have hr2:Instr.sameNow kd (ek k) e.key=some r:=by rw[hk'];exact hr
  cases r with
  |true=>
   refine⟨some (i,e.val),by simp only[Instr.findNow,hr2],fun j v hj=>?_,fun hn=>(by cases hn)⟩
   cases hj
   exact⟨0,e,rfl,rfl,hk'.trans (hr'.1 rfl).symm,rfl⟩
  |false=>
   obtain⟨r,g1,g2,g3⟩:=qF heq k es (i+1) (fun e he=>h e (List.mem_cons_of_mem _ he))
   refine⟨r,by simp only[Instr.findNow,hr2];exact g1,fun j v hj=>?_,fun hn e2 he2=>?_⟩
   ·obtain⟨m,e',q1,q2,q3⟩:=g2 j v hj
    exact⟨m+1,e',by omega,by simpa using q2,q3⟩
   ·rcases List.mem_cons.1 he2 with rfl|he2
    ·intro e'
     have:=hr'.2 (e'.symm.trans hk')
     cases this
    ·exact g3 hn e2 he2
theorem mB.now {kt:TypeId} {kd:TypeDesc} {κ:Type} {ek:κ->Value} (hu:P.underlying kt=some kd) (inj:∀a b,ek a=ek b->a=b) (chk:∀e k w,(Instr.checkKey e 10000 kt (ek k)).run P w= .ok () w)
  (heq:∀a b,∃r,Instr.sameNow kd (ek a) (ek b)=some r/\(r=true↔ek a=ek b)) (bits:∀k,Instr.sameBits 10000 (ek k) (ek k)=true):mB P kt ek:=by
 refine⟨inj,chk,fun k es w h=>?_,bits⟩
 obtain⟨r,h1,h2,h3⟩:=qF heq k es 0 h
 refine⟨r,by simp only[Instr.findKey,Sem.run_bind,run_underlying hu,Result.andThen_ok,h1,Sem.run_pure],fun i v hr=>?_,h3⟩
 obtain⟨m,e,rfl,q⟩:=h2 i v hr
 exact⟨e,by rw[Nat.zero_add];exact q.1,q.2⟩
end
end
section
section
variable {S F:ag} {ρ:aw} {M:ai} {w:World} {P:Program} {tt:TT}
theorem lX (vs:List Value):(bj vs).length=vs.length:=by simp[bj]
theorem ai.set_set (M:ai) (ℓ:Nat) (B B':aX):(M.set ℓ B).set ℓ B'=M.set ℓ B':=by
 funext x
 by_cases e:x=ℓ
 ·subst e;rw[ai.set_eq,ai.set_eq]
 ·rw[ai.set_ne _ _ e,ai.set_ne _ _ e,ai.set_ne _ _ e]
def uV:Value->AV
 | .agg vs=> .agg (bj vs.toList)
 |v=> .val v
theorem be.vals (vs:List Value):be S ρ vs (bj vs):=⟨(lX vs).symm,fun i u hu=>by
 obtain⟨v,hv,rfl⟩:=BF hu
 exact⟨v,hv, .p (.val v)⟩⟩
theorem IR (v:Value):RV S ρ v (uV v):=by
 unfold uV
 split
 ·rename_i vs
  have:=RV.agg_mk (be.vals (S:=S) (ρ:=ρ) vs.toList)
  simpa using this
 ·exact .p (.val v)
theorem Am {v:Value} (h:v.oneCell'=true):sR v=true:=by cases v<;>simp_all [sR,Value.oneCell']
theorem tC {v:Value} {cs:List AV} (h:allOne cs=true) (hv:be S ρ v.cells.toList cs):bP (uV v)=some (bj v.cells.toList):=by
 have ho:=jF h hv
 cases v with
 |agg vs=>rfl
 |_=>
  have h1:=Am (ho _ (by simp[Value.cells];rfl))
  simp only[uV,bP,h1]
  rfl
theorem tD {cs:List AV} {vs:List Value} (h:allOne cs=true) (hv:be S ρ vs cs):cg (bj vs)=true:=by
 have ho:=jF h hv
 clear hv h
 induction vs with
 |nil=>rfl
 |cons v vs ih=>
  have h1:nf (.val v)=true:=Am (ho v List.mem_cons_self)
  show(match nf (.val v) with|true=>cg (bj vs)|false=>false)=true
  rw[h1]
  exact ih fun x hx=>ho x (List.mem_cons_of_mem _ hx)
theorem mL:∀(vs:List Value) (M:ai) (K:List AV->ai->Prop),dJ (bj vs) M K=K (bj vs) M
 |[],M,K=>rfl
 |v::vs,M,K=>by
  show dJ (bj vs) M (fun us' M'=>K (.val v::us') M')=_
  rw[mL vs]
  rfl
theorem uW (l cs:List Value) (o:Nat):bj (l.take o++(cs++l.drop (o+cs.length)))=fp (bj l) o (bj cs):=by
 unfold fp bj
 simp only[List.map_append,List.map_take,List.map_drop,List.length_map]
theorem BL (hT:aW P tt=true) {t:TypeId} {K:ai->Prop} {us:List AV} {va vx:Value} (h:uR tt t us M K) (hM:ax S F ρ M w) (hv:be S ρ [va,vx] us):nj P S F ρ w (Instr.storeAt t va vx) K:=by
 unfold uR at h
 split at h
 ·rename_i ℓ j o x
  split at h
  ·rename_i rt g m hl
   obtain⟨y,ys,e,ha,hv⟩:=hv.cons_inv
   injection e with e e'
   subst e;subst e'
   obtain⟨y,ys,e,hx,_⟩:=hv.cons_inv
   injection e with e _
   subst e
   split at h
   ·rename_i cs i hcs ht
    obtain⟨hc,_⟩:=im hcs hx
    have hcl:=hc.1
    split at h
    ·rename_i hsz hone hle
     have hle2:=Nat.le_of_ble_eq_true hle
     obtain⟨l,hlm,hg,hM1⟩:=hM.hdrVals hl
     have hjm:j<m:=by
      obtain⟨b,hb,hj,_⟩:=ha.rel_inv
      obtain⟨b',hb',hrow⟩:=hM1.blk ℓ _ (ai.set_eq _ _ _)
      rw[hb] at hb';cases hb'
      have:=hrow.1
      omega
     have hgj:=hg j hjm
     have hcl2:(bj vx.cells.toList).length=cs.length:=by rw[lX];exact hcl
     have h1:er tt t [.rel ℓ j o,uV vx] (M.set ℓ (.row rt [] bj l)) (fun M'=>M'=(M.set ℓ (.row rt [] bj l)).set ℓ (.row rt [] bj (l.set j ((l.getD j []).take o++(vx.cells.toList++(l.getD j []).drop (o+vx.cells.toList.length)))))):=by
      unfold er
      simp only[tC hone hc,ht,hcl2,hsz,mL,ai.set_eq,tD hone hc]
      have hle3:Nat.ble (o+cs.length) (bj (l.getD j [])).length=true:=by
       rw[lX,hgj.1];exact hle
      simp only[hle3]
      rw[fv]
      exact⟨_,uW _ _ _,rfl⟩
     obtain⟨M',S',ρ',w',hr,rfl,h3,h4,h5,h6⟩:=lV hT h1 hM1 (be.cons ha (be.cons (IR vx) (be.nil _ _)))
     have hM3:=h5.valsHdr (ai.set_eq _ _ _) (fun k=>match Nat.beq k j with|true=>fp (g j) o cs|false=>g k) (fun k hk=>by
      rw[List.length_set] at hk
      by_cases e:k=j
      ·subst e
       rw[Nat.beq_refl]
       have e1:(l.set k ((l.getD k []).take o++(vx.cells.toList++(l.getD k []).drop (o+vx.cells.toList.length)))).getD k []=(l.getD k []).take o++(vx.cells.toList++(l.getD k []).drop (o+vx.cells.toList.length)):=by
        rw[gD,List.getElem?_set_self hk];rfl
       rw[e1]
       have:=hgj.splice_ hc o
       unfold fG at this
       exact this.mono h3 h4
      ·have e2:Nat.beq k j=false:=by rw[Bool.eq_false_iff];exact fun hh=>e (Nat.eq_of_beq_eq_true hh)
       rw[e2]
       have e1:(l.set j ((l.getD j []).take o++(vx.cells.toList++(l.getD j []).drop (o+vx.cells.toList.length)))).getD k []=l.getD k []:=by
        rw[gD,List.getElem?_set_ne (fun h=>e h.symm),<-gD]
       rw[e1]
       exact(hg k (by omega)).mono h3 h4)
     rw[ai.set_set,ai.set_set,List.length_set,hlm] at hM3
     exact⟨_,S',ρ',w',hr,h,h3,h4,hM3,h6⟩
    ·exact h.elim
   ·exact h.elim
  ·exact lV hT h hM hv
 ·exact lV hT h hM hv
theorem uX (vs:List Value):nh [bj vs]=none:=by
 cases vs with
 |nil=>rfl
 |cons v vs=>
  cases vs with
  |nil=>rfl
  |cons _ _=>rfl
theorem GW (hT:aW P tt=true) {A:Prop} {t:TypeId} {len:Nat} {is:List Nat} {dst:Option Tmp} {K:AV->ai->Prop} {us:List AV} {vs:List Value} (h:JJ A tt t len is us dst M K) (hM:ax S F ρ M w) (hv:be S ρ vs us)
  (hlen:is.length=vs.length) (hA:A->bW P S F ρ w (Instr.buildSlice t len (is.zip vs).toArray) K):bW P S F ρ w (Instr.buildSlice t len (is.zip vs).toArray) K:=by
 unfold JJ at h
 split at h
 ·rename_i u
  split at h
  ·split at h
   ·rename_i d sz0 by0 e z0 cs ht hcs
    obtain⟨v,vs',rfl,hx,hv'⟩:=hv.cons_inv
    cases hv'.nil_inv
    obtain⟨hc,_⟩:=im hcs hx
    split at h
    ·rename_i i hi hd
     split at h
     ·rename_i h1 h2 h3 h4 h5 h6
      have e1:=Nat.eq_of_beq_eq_true h3
      subst e1
      have hsz:=Nat.le_of_ble_eq_true h4
      have hcl:(bj v.cells.toList).length=i.size:=by rw[lX,hc.1];exact Nat.eq_of_beq_eq_true h5
      have hb:eY tt t 1 is [uV v] (some d) M (fun u M'=>u= .row d 1 i.size/\M'=M.set d (.row e [] bj [v.cells.toList])):=by
       unfold eY
       have a1:Nat.ble (1*i.size) 16777216=true:=Nat.ble_eq_true_of_le (by omega)
       have a2:fc i.size [uV v]=some [bj v.cells.toList]:=by
        simp only[fc,tC h6 hc]
        rw[hcl,Nat.beq_refl]
       have a3:jH [bj v.cells.toList]=true:=by
        show(match cg (bj v.cells.toList) with|true=>true|false=>false)=true
        rw[tD h6 hc]
       simp only[ht,hi,h1,h2,a1,a2,ju,mL,hd,a3,uX]
       rw[jG]
       exact⟨_,_,_,[v.cells.toList],ng _,by first|rfl|trivial,by first|rfl|trivial⟩
      obtain⟨v1,u1,M',S',ρ',w',hr,⟨rfl,rfl⟩,h7,h8,h9,h10,h11⟩:=oG (P:=P) hT hb hM (be.cons (IR v) (be.nil S ρ)) hlen
      have hM3:=h9.valsHdr (ai.set_eq _ _ _) (fun _=>cs) (fun k hk=>by
       have:k=0:=by simpa using hk
       subst this
       exact hc.mono h7 h8)
      rw[ai.set_set] at hM3
      exact⟨v1,_,_,S',ρ',w',hr,h,h7,h8,hM3,h10,h11⟩
     ·exact h.elim
    ·exact h.elim
   ·exact h.elim
  ·exact hA h
 ·exact hA h
theorem ax.grow (h:ax S F ρ M w) (o:Obj):ax S F ρ M (w.alloc o):=
 ⟨ag.inW_alloc h.sw _,ag.inW_alloc h.fw _,h.sf,h.dom,fun ℓ B hB=>let ⟨b,hb,hr⟩:=h.blk ℓ B hB;⟨b,hb,hr.keep (ag.le_refl _) (aw.le_refl _) fun hl=>⟨io _ _ _ (hr.lt hl),rfl⟩⟩,h.inj,h.gl⟩
theorem JQ (hT:aW P tt=true) {A:Prop} {t:TypeId} {K:AV->ai->Prop} {us:List AV} {vl vc:Value} (h:NC A tt t us M K) (hM:ax S F ρ M w) (hv:be S ρ [vl,vc] us)
  (hA:A->bW P S F ρ w (Instr.makeSlice t vl vc) K):bW P S F ρ w (Instr.makeSlice t vl vc) K:=by
 unfold NC at h
 split at h
 ·split at h
  ·rename_i n c a1 a2 e a3 ht
   split at h
   ·rename_i i hi
    rw[bF] at h
    obtain⟨⟨rfl,rfl⟩,hK⟩:=h
    obtain⟨y,ys,e1,hn,hv⟩:=hv.cons_inv
    injection e1 with e1 e2;subst e1;subst e2
    obtain⟨y,ys,e1,hc,_⟩:=hv.cons_inv
    injection e1 with e1 _;subst e1
    cases hn.int_inv;cases hc.int_inv
    have hte:=TOk.slice hT ht
    obtain⟨x,z,hx,hxs,hxb,hz,hzc,_,hzl⟩:=TOk.info hT hi
    have w0:IntKind.i64.wrap 0=0:=k8 (by omega)
    have hsz:∀w,(Go.sizeOf e).run P w= .ok i.size w:=fun w=>TOk.size hT hi w
    refine⟨.slice (some ⟨w.heap.size,0,none⟩) 0 0,_,M,S,ρ,w.alloc (.cells #[] e),?_,hK _,ag.le_refl _,aw.le_refl _,hM.grow _, .p (.val _),ce.alloc_cells _ _ _⟩
    simp only[Instr.makeSlice,Sem.run_bind,run_underlying hte,Result.andThen_ok,asInt,asIntOf,Sem.run_pure,typeInfo,run_program,hx,hxb,w0,Sem.run_ite]
    have e9:∀f:Nat->Value,Array.map f (Array.range 0)=#[]:=fun f=>Array.eq_empty_of_size_eq_zero (by simp)
    simp[run_askRoom,hsz,newRow,run_newObj]
    rw[e9]
   ·exact h.elim
  ·exact h.elim
 ·exact hA h
theorem GX (hT:aW P tt=true) {A:Prop} {ts:List TypeId} {ty:TypeId} {dst:Option Tmp} {K:AV->ai->Prop} {us:List AV} {vs:List Value} (h:JI A tt ts us dst M K) (hM:ax S F ρ M w) (hv:be S ρ vs us)
  (hA:A->bW P S F ρ w (Builtin.append_ ts.toArray ty vs.toArray) K):bW P S F ρ w (Builtin.append_ ts.toArray ty vs.toArray) K:=by
 unfold JI at h
 split at h
 ·rename_i s ℓ' n' sz'
  split at h
  ·rename_i e' g' m' hl'
   unfold LK at h
   split at h
   ·rename_i d t t'
    split at h
    ·rename_i sz0 by0 e z0 ht ht' hd
     split at h
     ·rename_i i hi
      split at h
      ·rename_i nb hbm hsz hem
       rw[Bool.and_eq_true] at hem
       have hem1:=Nat.eq_of_beq_eq_true hem.1
       subst hem1
       have hm0:0<m':=by have:=hem.2;simp[Nat.blt] at this;omega
       have hszq:=Nat.eq_of_beq_eq_true hsz
       obtain⟨l',hlm',hg',hM1⟩:=hM.hdrVals hl'
       have hv0:=hv
       obtain⟨v0,vs1,rfl,hs,hv1⟩:=hv.cons_inv
       obtain⟨v1,vs2,rfl,hx,hv2⟩:=hv1.cons_inv
       cases hv2.nil_inv
       have hdl':d≠ℓ':=fun e=>by rw[e,hl'] at hd;cases hd
       have hlen0:Nat.beq (bj (l'.getD 0 [])).length i.size=true:=by
        obtain⟨b,hb,_,hbs,_⟩:=hx.row_inv
        obtain⟨b',hb',hrow⟩:=hM1.blk ℓ' _ (ai.set_eq _ _ _)
        rw[hb] at hb';cases hb'
        have h0:0<l'.length:=by omega
        have:=(hrow.2.1 _ (List.getElem_mem h0)).1
        have e1:l'.getD 0 []=l'[0]:=by rw[gD,gL h0];rfl
        rw[e1,this,hbs,hszq,Nat.beq_refl]
       split at h
       ·rw[bF] at h
        obtain⟨hby,hK⟩:=h
        have hd1:(M.set ℓ' (.row e' [] bj l')) d=none:=by rw[ai.set_ne _ _ hdl'];exact hd
        have hb:fH tt [t,t'] [.nilsl, .row ℓ' n' sz'] (some d) (M.set ℓ' (.row e' [] bj l')) (fun u M'=>u= .row d m' i.size/\M'=(M.set ℓ' (.row e' [] bj l')).set d (.row e' [] bj l')):=by
         unfold fH
         simp only[ht,ht',hd1,hi,hbm,sT,ai.set_eq,hlen0]
         rw[bF,hlm']
         rw[hbm] at hby
         exact⟨hby,by first|rfl|trivial,by first|rfl|trivial⟩
        obtain⟨w1,u1,M',S',ρ',w',hr,⟨rfl,rfl⟩,h7,h8,h9,h10,h11⟩:=mK (P:=P) (ty:=ty) hT hb hM1 hv0
        have hM2:=h9.valsHdr (ai.set_eq _ _ _) g' (fun k hk=>(hg' k (by omega)).mono h7 h8)
        have hM3:=hM2.valsHdr (ℓ:=ℓ') (t:=e') (l:=l') (by rw[ai.set_ne _ _ (fun e=>hdl' e.symm),ai.set_ne _ _ (fun e=>hdl' e.symm),ai.set_eq]) g' (fun k hk=>(hg' k (by omega)).mono h7 h8)
        have hE:(((M.set ℓ' (.row e' [] bj l')).set d (.row e' [] bj l')).set d (.hdr e' g' l'.length)).set ℓ' (.hdr e' g' l'.length)=M.set d (.hdr e' g' m'):=by
         rw[hlm',ai.set_set,ai.set_comm _ _ _ hdl',ai.set_set]
         funext x
         by_cases e1:x=d
         ·subst e1;rw[ai.set_eq,ai.set_eq]
         ·rw[ai.set_ne _ _ e1,ai.set_ne _ _ e1]
          by_cases e2:x=ℓ'
          ·subst e2;rw[ai.set_eq,hl']
          ·rw[ai.set_ne _ _ e2]
        rw[hE] at hM3
        exact⟨w1,_,_,S',ρ',w',hr,hK,h7,h8,hM3,h10,h11⟩
       ·rename_i ℓ n sz
        split at h
        ·rename_i e2 g m hl hsz2 hne
         split at h
         ·rename_i he2
          have he2:=Nat.eq_of_beq_eq_true he2
          subst he2
          rw[bF] at h
          obtain⟨hby,hK⟩:=h
          have hll:ℓ≠ℓ':=fun e=>by rw[e,Nat.beq_refl] at hne;cases hne
          have hdl:d≠ℓ:=fun e=>by rw[e,hl] at hd;cases hd
          obtain⟨l,hlm,hg,hM2⟩:=hM1.hdrVals (ℓ:=ℓ) (t:=e2) (g:=g) (m:=m) (by rw[ai.set_ne _ _ hll];exact hl)
          have hd1:((M.set ℓ' (.row e2 [] bj l')).set ℓ (.row e2 [] bj l)) d=none:=by rw[ai.set_ne _ _ hdl,ai.set_ne _ _ hdl'];exact hd
          have hl1:((M.set ℓ' (.row e2 [] bj l')).set ℓ (.row e2 [] bj l)) ℓ'=some (.row e2 [] bj l'):=by rw[ai.set_ne _ _ (fun e=>hll e.symm),ai.set_eq]
          have hb:fH tt [t,t'] [.row ℓ n sz, .row ℓ' n' sz'] (some d) ((M.set ℓ' (.row e2 [] bj l')).set ℓ (.row e2 [] bj l)) (fun u M'=>u= .row d (n+m') i.size/\M'=(((M.set ℓ' (.row e2 [] bj l')).set ℓ (.row e2 [] bj l)).set ℓ .dead).set d (.row e2 [] bj (l++l'))):=by
           unfold fH
           simp only[ht,ht',hd1,hi,hbm,sT,hl1,hlen0,ai.set_eq,hsz2,Nat.beq_refl,hne,Bool.not_false]
           rw[iE,hlm,hlm']
           rw[hbm] at hby
           exact⟨hby,l',rfl,by first|rfl|trivial,by first|rfl|trivial⟩
          obtain⟨w1,u1,M',S',ρ',w',hr,⟨rfl,rfl⟩,h7,h8,h9,h10,h11⟩:=mK (P:=P) (ty:=ty) hT hb hM2 hv0
          have hM3:=h9.valsHdr (ai.set_eq _ _ _) (fun k=>match Nat.blt k m with|true=>g k|false=>g' (k-m)) (fun k hk=>by
           rw[List.length_append] at hk
           by_cases hkm:k<m
           ·have e1:Nat.blt k m=true:=by simp[Nat.blt];omega
            rw[e1]
            have e3:(l++l').getD k []=l.getD k []:=by rw[gD,List.getElem?_append_left (by omega),<-gD]
            rw[e3]
            exact(hg k hkm).mono h7 h8
           ·have e1:Nat.blt k m=false:=by rw[Bool.eq_false_iff];intro hh;exact hkm (by simp[Nat.blt] at hh;omega)
            rw[e1]
            have e3:(l++l').getD k []=l'.getD (k-m) []:=by rw[gD,List.getElem?_append_right (by omega),<-gD,hlm]
            rw[e3]
            exact(hg' (k-m) (by omega)).mono h7 h8)
          have hM4:=hM3.valsHdr (ℓ:=ℓ') (t:=e2) (l:=l') (by rw[ai.set_ne _ _ (fun e=>hdl' e.symm),ai.set_ne _ _ (fun e=>hdl' e.symm),ai.set_ne _ _ (fun e=>hll e.symm)];exact hl1) g' (fun k hk=>(hg' k (by omega)).mono h7 h8)
          have hE:((((((M.set ℓ' (.row e2 [] bj l')).set ℓ (.row e2 [] bj l)).set ℓ .dead).set d (.row e2 [] bj (l++l'))).set d (.hdr e2 (fun k=>match Nat.blt k m with|true=>g k|false=>g' (k-m)) (l++l').length)).set ℓ' (.hdr e2 g' l'.length))=(M.set ℓ .dead).set d (.hdr e2 (fun k=>match Nat.blt k m with|true=>g k|false=>g' (k-m)) (m+m')):=by
           rw[List.length_append,hlm,hlm',ai.set_set,ai.set_set]
           funext x
           by_cases e1:x=ℓ'
           ·subst e1
            rw[ai.set_eq,ai.set_ne _ _ (fun e=>hdl' e.symm),ai.set_ne _ _ (fun e=>hll e.symm),hl']
           ·rw[ai.set_ne _ _ e1]
            by_cases e3:x=d
            ·subst e3;rw[ai.set_eq,ai.set_eq]
            ·rw[ai.set_ne _ _ e3,ai.set_ne _ _ e3]
             by_cases e4:x=ℓ
             ·subst e4;rw[ai.set_eq,ai.set_eq]
             ·rw[ai.set_ne _ _ e4,ai.set_ne _ _ e4,ai.set_ne _ _ e1]
          rw[hE] at hM4
          exact⟨w1,_,_,S',ρ',w',hr,hK,h7,h8,hM4,h10,h11⟩
         ·exact h.elim
        ·exact h.elim
       ·exact h.elim
      ·exact h.elim
     ·exact h.elim
    ·exact h.elim
   ·exact h.elim
  ·exact hA h
 ·exact hA h
end
end
end Go.Proofs.YtokjgegkhlkopaaGreatDoor
