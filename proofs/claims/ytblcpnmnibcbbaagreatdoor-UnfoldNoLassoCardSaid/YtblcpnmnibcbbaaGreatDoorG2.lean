import Derived.Test.YtblcpnmnibcbbaaGreatDoorG1
import Derived.Laws.BytesArg
set_option linter.unusedVariables false
set_option linter.unusedSimpArgs false
namespace Go.Proofs.YtblcpnmnibcbbaaGreatDoor
section
section
variable {S F:ae} {ρ:aw} {M:ah} {w:World}
theorem cj {w:World} {k:Nat} {o:Obj} (h:w.heap[k]? =some o):k<w.heap.size:=by
 rcases Nat.lt_or_ge k w.heap.size with h1|h1
 ·exact h1
 ·rw[Array.getElem?_eq_none h1] at h;cases h
theorem ae.inW_size {S:ae} (h:S.inW w):S w.heap.size=none:=by
 cases hb:S w.heap.size with
 |none=>rfl
 |some o=>have:=cj (h _ _ hb);omega
theorem dM.keep {S S' F:ae} {ρ ρ':aw} {w w':World} {b:dZ} {B:bj} (h:dM S F ρ w b B) (hS:S.le S') (hρ:aw.le ρ ρ')
  (hb:B.live b->w'.heap[b.blk]? =w.heap[b.blk]?/\S' b.blk=S b.blk):dM S' F ρ' w' b B:=by
 cases B with
 |box t cells=>
  obtain⟨vs,h1,h2,h3,h4⟩:=h
  obtain⟨e1,e2⟩:=hb trivial
  exact⟨vs,e1.trans h1,h2.mono hS hρ,e2.trans h3,h4⟩
 |row t d enc l=>
  obtain⟨h1,h2,h3⟩:=h
  refine⟨h1,h2,h3.imp id fun⟨hn,hc,vs,h4,h5,h6,h7,h8⟩=>?_⟩
  obtain⟨e1,e2⟩:=hb hn
  exact⟨hn,hc,vs,e1.trans h4,h5,fun i a j u ha hu=>let ⟨v,hv,hr⟩:=h6 i a j u ha hu;⟨v,hv,hr.mono hS⟩,e2.trans h7,h8⟩
 |gone d enc l=>exact⟨h.1,h.2.mono hS⟩
 |iter s pos=>
  obtain⟨e1,e2⟩:=hb trivial
  exact⟨e1.trans h.1,e2.trans h.2.1,h.2.2⟩
 |map ek ev l=>
  obtain⟨es,ck,h1,h2,h3,h4⟩:=h
  obtain⟨e1,e2⟩:=hb trivial
  exact⟨es,ck,e1.trans h1,h2,e2.trans h3,h4⟩
 |obj o=>
  obtain⟨e1,e2⟩:=hb trivial
  exact⟨e1.trans h.1,e2.trans h.2.1,h.2.2⟩
 |hdr t g m=>
  obtain⟨l,hlm,hg,h1,h2,h3⟩:=h
  refine⟨l,hlm,fun i hi=>(hg i hi).mono hS hρ,h1,h2,h3.imp id fun⟨hn,hc,vs,h4,h5,h6,h7,h8⟩=>?_⟩
  obtain⟨e1,e2⟩:=hb hn
  exact⟨hn,hc,vs,e1.trans h4,h5,fun i a j u ha hu=>let ⟨v,hv,hr⟩:=h6 i a j u ha hu;⟨v,hv,hr.mono hS⟩,e2.trans h7,h8⟩
 |dead=>trivial
theorem dM.lt {B:bj} {b:dZ} (h:dM S F ρ w b B) (hl:B.live b):b.blk<w.heap.size:=by
 cases B with
 |box t cells=>obtain⟨vs,h1,_⟩:=h;exact cj h1
 |row t d enc l=>
  obtain⟨_,_,h3⟩:=h
  rcases h3 with ⟨hn,_⟩|⟨_,_,vs,h4,_⟩
  ·simp only[bj.live] at hl;rw[hn] at hl;cases hl
  ·exact cj h4
 |gone d enc l=>exact hl.elim
 |iter s pos=>exact cj h.1
 |map ek ev l=>obtain⟨es,ck,h1,_⟩:=h;exact cj h1
 |obj o=>exact cj h.1
 |hdr t g m=>
  obtain⟨_,_,_,_,_,h3⟩:=h
  rcases h3 with ⟨hn,_⟩|⟨_,_,vs,h4,_⟩
  ·simp only[bj.live] at hl;rw[hn] at hl;cases hl
  ·exact cj h4
 |dead=>exact hl.elim
theorem dM.off {B:bj} {b:dZ} (h:dM S F ρ w b B) (hl:B.live b):S b.blk=none/\F b.blk=none:=by
 cases B with
 |box t cells=>obtain⟨vs,_,_,h1,h2⟩:=h;exact⟨h1,h2⟩
 |row t d enc l=>
  obtain⟨_,_,h3⟩:=h
  rcases h3 with ⟨hn,_⟩|⟨_,_,vs,_,_,_,h7,h8⟩
  ·simp only[bj.live] at hl;rw[hn] at hl;cases hl
  ·exact⟨h7,h8⟩
 |gone d enc l=>exact hl.elim
 |iter s pos=>exact h.2
 |map ek ev l=>obtain⟨es,ck,_,_,h3,h4⟩:=h;exact⟨h3,h4⟩
 |obj o=>exact h.2
 |hdr t g m=>
  obtain⟨_,_,_,_,_,h3⟩:=h
  rcases h3 with ⟨hn,_⟩|⟨_,_,vs,_,_,_,h7,h8⟩
  ·simp only[bj.live] at hl;rw[hn] at hl;cases hl
  ·exact⟨h7,h8⟩
 |dead=>exact hl.elim
def aw.set (ρ:aw) (d:Nat) (b:dZ):aw:=fun x=>if x=d then some b else ρ x
theorem aw.set_le {ρ:aw} {d:Nat} (b:dZ) (h:ρ d=none):aw.le ρ (aw.set ρ d b):=by
 intro ℓ b' hb
 unfold aw.set
 split
 ·subst_vars;rw[h] at hb;cases hb
 ·exact hb
theorem aw.set_eq (ρ:aw) (d:Nat) (b:dZ):aw.set ρ d b d=some b:=by simp[aw.set]
theorem aw.set_ne (ρ:aw) {d x:Nat} (b:dZ) (h:x≠d):aw.set ρ d b x=ρ x:=by simp[aw.set,h]
theorem az.fresh (h:az S F ρ M w) {d:Nat} (hd:M d=none):ρ d=none:=by
 cases hb:ρ d with
 |none=>rfl
 |some b=>exact absurd hd (h.dom _ _ hb)
theorem gz (w:World) (o:Obj) (k:Nat) (h:k<w.heap.size):(w.alloc o).heap[k]? =w.heap[k]?:=RowKit.Below.heap_alloc w o k h
theorem bp (w:World) (o:Obj):(w.alloc o).heap[w.heap.size]? =some o:=by show(w.heap.push o)[w.heap.size]? =_;simp
theorem ae.inW_alloc {S:ae} (h:S.inW w) (o:Obj):S.inW (w.alloc o):=fun b x hb=>by
 have:=h b x hb
 rw[gz w o b (cj this)]
 exact this
theorem bX.alloc_cells (w:World) (vs:Array Value) (t:TypeId):bX w (w.alloc (.cells vs t)):=
 ⟨rfl,rfl,rfl,Nat.le_refl _,by show w.heap.size<=(w.heap.push _).size;simp,fun a _=>RowKit.frozen?_alloc_cells w vs t a⟩
theorem az.allocO (h:az S F ρ M w) {d:Nat} (hd:M d=none) (o:Obj) (b:dZ) (B:bj) (hb:B.live b->b.blk=w.heap.size)
  (hB:dM S F (aw.set ρ d b) (w.alloc o) b B):az S F (aw.set ρ d b) (M.set d B) (w.alloc o):=by
 have hf:=h.fresh hd
 have hle:=aw.set_le b hf
 refine⟨ae.inW_alloc h.sw _,ae.inW_alloc h.fw _,h.sf,fun ℓ b' hb'=>?_,fun ℓ B' hB'=>?_,fun ℓ ℓ' C C' c c' h1 h2 h3 h4 h5 h6 hne=>?_,h.gl⟩
 ·by_cases e:ℓ=d
  ·subst e;rw[ah.set_eq];simp
  ·rw[ah.set_ne _ _ e];rw[aw.set_ne _ _ e] at hb';exact h.dom _ _ hb'
 ·by_cases e:ℓ=d
  ·subst e;rw[ah.set_eq] at hB';cases hB';exact⟨b,aw.set_eq _ _ _,hB⟩
  ·rw[ah.set_ne _ _ e] at hB'
   obtain⟨b',hb',hr⟩:=h.blk _ _ hB'
   exact⟨b',by rw[aw.set_ne _ _ e];exact hb',hr.keep (ae.le_refl _) hle fun hl=>⟨gz _ _ _ (hr.lt hl),rfl⟩⟩
 ·have other:∀x C c,x≠d->(M.set d B) x=some C->aw.set ρ d b x=some c->C.live c->c.blk<w.heap.size:=by
   intro x C c hx hC hc hl
   rw[ah.set_ne _ _ hx] at hC
   rw[aw.set_ne _ _ hx] at hc
   obtain⟨c',hc',hr⟩:=h.blk _ _ hC
   rw[hc] at hc';cases hc'
   exact hr.lt hl
  by_cases e:ℓ=d
  ·subst e
   rw[ah.set_eq] at h1;cases h1
   rw[aw.set_eq] at h3;cases h3
   have:=other ℓ' C' c' (fun e=>hne e.symm) h2 h4 h6
   have:=hb h5
   omega
  ·by_cases e':ℓ'=d
   ·subst e'
    rw[ah.set_eq] at h2;cases h2
    rw[aw.set_eq] at h4;cases h4
    have:=other ℓ C c e h1 h3 h5
    have:=hb h6
    omega
   ·rw[ah.set_ne _ _ e] at h1
    rw[ah.set_ne _ _ e'] at h2
    rw[aw.set_ne _ _ e] at h3
    rw[aw.set_ne _ _ e'] at h4
    exact h.inj ℓ ℓ' C C' c c' h1 h2 h3 h4 h5 h6 hne
theorem az.alloc (h:az S F ρ M w) {d:Nat} (hd:M d=none) (vs:Array Value) (t:TypeId) (b:dZ) (B:bj) (hb:B.live b->b.blk=w.heap.size)
  (hB:dM S F (aw.set ρ d b) (w.alloc (.cells vs t)) b B):az S F (aw.set ρ d b) (M.set d B) (w.alloc (.cells vs t)):=h.allocO hd _ b B hb hB
theorem bX.alloc_iter (w:World) (s:ByteArray) (pos:Nat):bX w (w.alloc (.stringIter s pos)):=
 ⟨rfl,rfl,rfl,Nat.le_refl _,by show w.heap.size<=(w.heap.push _).size;simp,fun a _=>by
  unfold World.frozen?
  by_cases h:a.block=w.heap.size
  ·have e1:(w.alloc (.stringIter s pos)).heap[a.block]? =some (.stringIter s pos):=by rw[h];exact bp _ _
   have e2:w.heap[a.block]? =none:=by rw[h];simp
   rw[e1,e2]
  ·by_cases hl:a.block<w.heap.size
   ·rw[gz _ _ _ hl]
   ·have e1:(w.alloc (.stringIter s pos)).heap[a.block]? =none:=Array.getElem?_eq_none (by show(w.heap.push _).size<=_;simp;omega)
    have e2:w.heap[a.block]? =none:=Array.getElem?_eq_none (by omega)
    rw[e1,e2]⟩
theorem az.add (h:az S F ρ M w) {d:Nat} (hd:M d=none) (b:dZ) (B:bj) (hoth:∀ℓ C c,M ℓ=some C->ρ ℓ=some c->C.live c->B.live b->c.blk≠b.blk)
  (hB:dM S F (aw.set ρ d b) w b B):az S F (aw.set ρ d b) (M.set d B) w:=by
 have hf:=h.fresh hd
 have hle:=aw.set_le b hf
 refine⟨h.sw,h.fw,h.sf,fun ℓ b' hb'=>?_,fun ℓ B' hB'=>?_,fun ℓ ℓ' C C' c c' h1 h2 h3 h4 h5 h6 hne=>?_,h.gl⟩
 ·by_cases e:ℓ=d
  ·subst e;rw[ah.set_eq];simp
  ·rw[ah.set_ne _ _ e];rw[aw.set_ne _ _ e] at hb';exact h.dom _ _ hb'
 ·by_cases e:ℓ=d
  ·subst e;rw[ah.set_eq] at hB';cases hB';exact⟨b,aw.set_eq _ _ _,hB⟩
  ·rw[ah.set_ne _ _ e] at hB'
   obtain⟨b',hb',hr⟩:=h.blk _ _ hB'
   exact⟨b',by rw[aw.set_ne _ _ e];exact hb',hr.keep (ae.le_refl _) hle fun hl=>⟨rfl,rfl⟩⟩
 ·by_cases e:ℓ=d
  ·subst e
   rw[ah.set_eq] at h1;cases h1
   rw[aw.set_eq] at h3;cases h3
   have e':ℓ'≠ℓ:=fun x=>hne x.symm
   rw[ah.set_ne _ _ e'] at h2
   rw[aw.set_ne _ _ e'] at h4
   exact fun x=>hoth _ _ _ h2 h4 h6 h5 x.symm
  ·by_cases e':ℓ'=d
   ·subst e'
    rw[ah.set_eq] at h2;cases h2
    rw[aw.set_eq] at h4;cases h4
    rw[ah.set_ne _ _ e] at h1
    rw[aw.set_ne _ _ e] at h3
    exact hoth _ _ _ h1 h3 h5 h6
   ·rw[ah.set_ne _ _ e] at h1
    rw[ah.set_ne _ _ e'] at h2
    rw[aw.set_ne _ _ e] at h3
    rw[aw.set_ne _ _ e'] at h4
    exact h.inj ℓ ℓ' C C' c c' h1 h2 h3 h4 h5 h6 hne
theorem az.upd (h:az S F ρ M w) {ℓ:Nat} {B B':bj} {b:dZ} (hl:M ℓ=some B) (hb:ρ ℓ=some b) {w':World}
  (hoth:∀k,(k≠b.blk\/¬B.live b)->w'.heap[k]? =w.heap[k]?) (hlive:B'.live b->B.live b)
  (hB:dM S F ρ w' b B'):az S F ρ (M.set ℓ B') w':=by
 obtain⟨b0,hb0,hr0⟩:=h.blk _ _ hl
 rw[hb] at hb0;cases hb0
 have hfar:∀k o,w.heap[k]? =some o->(B.live b->k≠b.blk)->w'.heap[k]? =some o:=fun k o hk hne=>by
  rw[hoth k (by by_cases hh:B.live b;exact .inl (hne hh);exact .inr hh)];exact hk
 refine⟨fun k o hk=>hfar k o (h.sw k o hk) (fun hL e=>?_),fun k o hk=>hfar k o (h.fw k o hk) (fun hL e=>?_),h.sf,fun x c hc=>?_,fun x C hC=>?_,fun x x' C C' c c' h1 h2 h3 h4 h5 h6 hne=>?_,h.gl⟩
 ·subst e;rw[(hr0.off hL).1] at hk;cases hk
 ·subst e;rw[(hr0.off hL).2] at hk;cases hk
 ·by_cases e:x=ℓ
  ·subst e;rw[ah.set_eq];simp
  ·rw[ah.set_ne _ _ e];exact h.dom _ _ hc
 ·by_cases e:x=ℓ
  ·subst e;rw[ah.set_eq] at hC;cases hC;exact⟨b,hb,hB⟩
  ·rw[ah.set_ne _ _ e] at hC
   obtain⟨c,hc,hr⟩:=h.blk _ _ hC
   refine⟨c,hc,hr.keep (ae.le_refl _) (aw.le_refl _) fun hL=>⟨hoth _ ?_,rfl⟩⟩
   by_cases hh:B.live b
   ·exact .inl (h.inj x ℓ C B c b hC hl hc hb hL hh e)
   ·exact .inr hh
 ·have get:∀y D,(M.set ℓ B') y=some D->∀dd,ρ y=some dd->D.live dd->∃D0,M y=some D0/\D0.live dd:=by
   intro y D hy dd hdd hL
   by_cases e:y=ℓ
   ·subst e;rw[ah.set_eq] at hy;cases hy
    rw[hb] at hdd;cases hdd
    exact⟨B,hl,hlive hL⟩
   ·rw[ah.set_ne _ _ e] at hy;exact⟨D,hy,hL⟩
  obtain⟨D,hD,hDl⟩:=get _ _ h1 _ h3 h5
  obtain⟨D',hD',hDl'⟩:=get _ _ h2 _ h4 h6
  exact h.inj x x' D D' c c' hD hD' h3 h4 hDl hDl' hne
theorem yu {vs:List Value} {j:Nat} {u:AV} (h:(bg vs)[j]? =some u):∃v,vs[j]? =some v/\u= .val v:=by
 unfold bg at h
 rw[List.getElem?_map,Option.map_eq_some_iff] at h
 obtain⟨v,h1,h2⟩:=h
 exact⟨v,h1,h2.symm⟩
theorem az.hdrVals (h:az S F ρ M w) {ℓ:Nat} {t:TypeId} {g:Nat->List AV} {m:Nat} (hl:M ℓ=some (.hdr t g m)):∃l:List (List Value),l.length=m/\(∀i,i<m->ba S ρ (l.getD i []) (g i))/\az S F ρ (M.set ℓ (.row t [] bg l)) w:=by
 obtain⟨b,hb,l,hlm,hg,hrow⟩:=h.blk _ _ hl
 exact⟨l,hlm,hg,h.upd hl hb (fun _ _=>rfl) (fun hh=>hh) hrow⟩
theorem az.valsHdr (h:az S F ρ M w) {ℓ:Nat} {t:TypeId} {l:List (List Value)} (hl:M ℓ=some (.row t [] bg l)) (g:Nat->List AV) (hg:∀i,i<l.length->ba S ρ (l.getD i []) (g i)):az S F ρ (M.set ℓ (.hdr t g l.length)) w:=by
 obtain⟨b,hb,hrow⟩:=h.blk _ _ hl
 exact h.upd hl hb (fun _ _=>rfl) (fun hh=>hh) ⟨l,rfl,hg,hrow⟩
theorem az.kill (h:az S F ρ M w) {ℓ:Nat} {B:bj} (hl:M ℓ=some B):az S F ρ (M.set ℓ .dead) w:=by
 obtain⟨b,hb,_⟩:=h.blk _ _ hl
 exact h.upd hl hb (fun _ _=>rfl) (fun hh=>hh.elim) trivial
theorem az.leak (h:az S F ρ M w) {ℓ:Nat} {t:TypeId} {α:Type} {d:α} {enc:α->List AV} {l:List α} (hl:M ℓ=some (.row t d enc l)):
  ∃S' b,ae.le S S'/\ρ ℓ=some b/\az S' F ρ (M.set ℓ (.gone d enc l)) w/\RP S' b.hdr (.sl d enc l):=by
 obtain⟨b,hb,hlen,hszs,hcase⟩:=h.blk _ _ hl
 rcases hcase with ⟨hn,rfl,hcap⟩|⟨hn,hcap,vs,hheap,hsize,hcell,hS,hF⟩
 ·have hr:RP S b.hdr (.sl d enc []):=by
   have hlen':b.len=0:=by simpa using hlen
   have e:b.hdr= .slice none ([]:List α).length 0:=by simp[dZ.hdr,hn,hlen',hcap]
   rw[e]
   exact .sl d enc [] none 0 0 (fun _ _=>undef) (by simp) (by simp) (by simp) (by simp) (by simp) (by simp)
  exact⟨S,b,ae.le_refl _,hb,h.upd hl hb (fun _ _=>rfl) (fun hh=>hh.elim) ⟨hlen,hr⟩,hr⟩
 ·let S':ae:=fun k=>if k=b.blk then some (.cells vs t (0,0)) else S k
  have hle:ae.le S S':=fun k o hk=>by
   show(if k=b.blk then _ else _)=_
   split
   ·subst_vars;rw[hS] at hk;cases hk
   ·exact hk
  have hr:RP S' b.hdr (.sl d enc l):=by
   have e:b.hdr= .slice (some ⟨b.blk,0,none⟩) l.length b.cap:=by simp[dZ.hdr,hn,hlen]
   rw[e]
   refine .sl d enc l _ _ b.sz (fun i j=>(vs[i*b.sz+j]?).getD undef) hcap (fun a ha=>(hszs a ha).2) (fun a ha=>(hszs a ha).1) (fun i j hi hj=>⟨_,rfl,?_⟩) (by simp) (fun i a j u ha hu=>?_)
   ·rw[Addr.add_mk]
    have:i*b.sz+j<vs.size:=by
     rw[hsize]
     have:(i+1)*b.sz<=b.cap*b.sz:=Nat.mul_le_mul_right _ (by omega)
     rw[Nat.add_mul] at this
     omega
    simp[ae.cell,S',this]
   ·obtain⟨v,hv,hvr⟩:=hcell i a j u ha hu
    rw[hv]
    exact hvr.mono hle
  refine⟨S',b,hle,hb,?_,hr⟩
  have hw':=h.upd (B':= .dead) hl hb (w':=w) (fun _ _=>rfl) (fun hh=>hh.elim) trivial
  have hS'k:∀k,k≠b.blk->S' k=S k:=fun k hk=>by show(if _ then _ else _)=_;rw[if_neg hk]
  have hS'b:S' b.blk=some (.cells vs t (0,0)):=by show(if _ then _ else _)=_;rw[if_pos rfl]
  refine⟨fun k o hk=>?_,h.fw,fun k=>?_,fun x c hc=>?_,fun x C hC=>?_,fun x x' C C' c c' h1 h2 h3 h4 h5 h6 hne=>?_,h.gl.mono hle⟩
  ·by_cases e:k=b.blk
   ·subst e;rw[hS'b] at hk;cases hk;exact hheap
   ·rw[hS'k _ e] at hk;exact h.sw _ _ hk
  ·by_cases e:k=b.blk
   ·subst e;exact .inr hF
   ·rw[hS'k _ e];exact h.sf k
  ·by_cases e:x=ℓ
   ·subst e;rw[ah.set_eq];simp
   ·rw[ah.set_ne _ _ e];exact h.dom _ _ hc
  ·by_cases e:x=ℓ
   ·subst e;rw[ah.set_eq] at hC;cases hC;exact⟨b,hb,hlen,hr⟩
   ·rw[ah.set_ne _ _ e] at hC
    obtain⟨c,hc,hrC⟩:=h.blk _ _ hC
    exact⟨c,hc,hrC.keep hle (aw.le_refl _) fun hL=>⟨rfl,hS'k _ (h.inj x ℓ C _ c b hC hl hc hb hL (by exact hn) e)⟩⟩
  ·have get:∀y D,(M.set ℓ (.gone d enc l)) y=some D->∀dd,D.live dd->M y=some D:=by
    intro y D hy dd hL
    by_cases e:y=ℓ
    ·subst e;rw[ah.set_eq] at hy;cases hy;exact hL.elim
    ·rw[ah.set_ne _ _ e] at hy;exact hy
   exact h.inj x x' C C' c c' (get _ _ h1 _ h5) (get _ _ h2 _ h6) h3 h4 h5 h6 hne
theorem az.leakBox (h:az S F ρ M w) {ℓ:Nat} {t:TypeId} {cells:List AV} (hl:M ℓ=some (.box t cells)) (hp:∀(j:Nat) u v,cells[j]? =some u->RV S ρ v u->RP S v u):
  ∃S' b,ae.le S S'/\ρ ℓ=some b/\az S' F ρ (M.set ℓ .dead) w/\RP S' (.pointer (some ⟨b.blk,0,none⟩)) (.pd cells):=by
 obtain⟨b,hb,vs,hheap,hcell,hS,hF⟩:=h.blk _ _ hl
 let S':ae:=fun k=>if k=b.blk then some (.cells vs t (0,0)) else S k
 have hle:ae.le S S':=fun k o hk=>by
  show(if k=b.blk then _ else _)=_
  split
  ·subst_vars;rw[hS] at hk;cases hk
  ·exact hk
 have hr:RP S' (.pointer (some ⟨b.blk,0,none⟩)) (.pd cells):=by
  refine .pd cells ⟨b.blk,0,none⟩ (fun j=>(vs[j]?).getD undef) (fun j hj=>?_) (fun j u hu=>?_)
  ·rw[Addr.add_mk]
   have hs:vs.size=cells.length:=by have:=hcell.1;simpa using this
   have:j<vs.size:=by omega
   simp[ae.cell,S',this]
  ·obtain⟨v,hv,hvr⟩:=hcell.2 j u hu
   have hv':vs[j]? =some v:=by simpa using hv
   rw[hv']
   exact(hp j u v hu hvr).mono hle
 refine⟨S',b,hle,hb,?_,hr⟩
 have hS'k:∀k,k≠b.blk->S' k=S k:=fun k hk=>by show(if _ then _ else _)=_;rw[if_neg hk]
 have hS'b:S' b.blk=some (.cells vs t (0,0)):=by show(if _ then _ else _)=_;rw[if_pos rfl]
 refine⟨fun k o hk=>?_,h.fw,fun k=>?_,fun x c hc=>?_,fun x C hC=>?_,fun x x' C C' c c' h1 h2 h3 h4 h5 h6 hne=>?_,h.gl.mono hle⟩
 ·by_cases e:k=b.blk
  ·subst e;rw[hS'b] at hk;cases hk;exact hheap
  ·rw[hS'k _ e] at hk;exact h.sw _ _ hk
 ·by_cases e:k=b.blk
  ·subst e;exact .inr hF
  ·rw[hS'k _ e];exact h.sf k
 ·by_cases e:x=ℓ
  ·subst e;rw[ah.set_eq];simp
  ·rw[ah.set_ne _ _ e];exact h.dom _ _ hc
 ·by_cases e:x=ℓ
  ·subst e;rw[ah.set_eq] at hC;cases hC;exact⟨b,hb,trivial⟩
  ·rw[ah.set_ne _ _ e] at hC
   obtain⟨c,hc,hrC⟩:=h.blk _ _ hC
   exact⟨c,hc,hrC.keep hle (aw.le_refl _) fun hL=>⟨rfl,hS'k _ (h.inj x ℓ C _ c b hC hl hc hb hL trivial e)⟩⟩
 ·have get:∀y D,(M.set ℓ .dead) y=some D->∀dd,D.live dd->M y=some D:=by
   intro y D hy dd hL
   by_cases e:y=ℓ
   ·subst e;rw[ah.set_eq] at hy;cases hy;exact hL.elim
   ·rw[ah.set_ne _ _ e] at hy;exact hy
  exact h.inj x x' C C' c c' (get _ _ h1 _ h5) (get _ _ h2 _ h6) h3 h4 h5 h6 hne
theorem az.drawn (h:az S F ρ M w) (n:Nat):az S F ρ M {w with drawn:=n}:=
 ⟨h.sw,h.fw,h.sf,h.dom,fun ℓ B hB=>let ⟨b,hb,hr⟩:=h.blk ℓ B hB;⟨b,hb,hr.keep (ae.le_refl _) (aw.le_refl _) fun _=>⟨rfl,rfl⟩⟩,h.inj,h.gl⟩
theorem bX.setRow {g:Nat} {cur vs:Array Value} {t:TypeId} (hg:w.heap[g]? =some (.cells cur t (0,0))):bX w (w.setRow g vs):=by
 refine⟨rfl,rfl,rfl,Nat.le_refl _,by simp,fun a _=>?_⟩
 unfold World.frozen?
 by_cases h:a.block=g
 ·rw[h,setRow_heap w g cur vs t _ hg,hg]
 ·rw[setRow_other w g a.block vs h]
end
end
section
structure fX (c:Prop) (k:Prop):Prop where
 out:c/\k
theorem bA {c:Prop} {k:Prop}:fX c k↔(c/\k):=⟨fun h=>h.out,fun h=>⟨h⟩⟩
structure tT (p:Prop) (i:Decidable p) (k:Bool->Prop):Prop where
 out:k (@decide p i)
theorem gJ {p:Prop} {i:Decidable p} {k:Bool->Prop}:tT p i k↔(k (@decide p i)):=⟨fun h=>h.out,fun h=>⟨h⟩⟩
structure jk (c:Prop) (k:IntKind) (n:Int) (K:Int->Prop):Prop where
 out:c/\K (k.wrap n)
theorem dl {c:Prop} {k:IntKind} {n:Int} {K:Int->Prop}:jk c k n K↔(c/\K (k.wrap n)):=⟨fun h=>h.out,fun h=>⟨h⟩⟩
theorem dA {c k:Prop} (h:c) (h':k):fX c k:=by rw[bA];exact⟨h,h'⟩
theorem ag {p:Prop} {i:Decidable p} {k:Bool->Prop} (h:p->k true) (h':¬p->k false):tT p i k:=by
 rw[gJ]
 by_cases hp:p
 ·rw[decide_eq_true hp];exact h hp
 ·rw[decide_eq_false hp];exact h' hp
theorem fc {p:Prop} {i:Decidable p} {k:Bool->Prop} (hp:p) (h:k true):tT p i k:=ag (fun _=>h) (fun h'=>absurd hp h')
theorem fE {p:Prop} {i:Decidable p} {k:Bool->Prop} (hp:¬p) (h:k false):tT p i k:=ag (fun h'=>absurd h' hp) (fun _=>h)
theorem G6 {p:Prop} {i:Decidable p} {k:Bool->Prop} (h:k (@decide p i)):tT p i k:=by rw[gJ];exact h
theorem j7 {n:Int} (h:-9223372036854775808<=n/\n<=9223372036854775807):IntKind.i64.wrap n=n:=IntWalk.i64_in n (by omega)
theorem G7 {c:Prop} {n:Int} {K:Int->Prop} (hc:c) (h:-9223372036854775808<=n/\n<=9223372036854775807) (h':K n):jk c .i64 n K:=by
 rw[dl];rw[j7 h];exact⟨hc,h'⟩
theorem Aq {n:Int} (h:0<=n/\n<=18446744073709551615):IntKind.u64.wrap n=n:=by
 have e:IntKind.u64.wrap n=n % 18446744073709551616:=by simp[IntKind.wrap,IntKind.signed,IntKind.bits]
 rw[e];omega
theorem Dw {n:Int} (h:0<=n/\n<=255):IntKind.u8.wrap n=n:=by
 have e:IntKind.u8.wrap n=n % 256:=by simp[IntKind.wrap,IntKind.signed,IntKind.bits]
 rw[e];omega
theorem Je {c:Prop} {n:Int} {K:Int->Prop} (hc:c) (h:0<=n/\n<=18446744073709551615) (h':K n):jk c .u64 n K:=by
 rw[dl,Aq h];exact⟨hc,h'⟩
theorem Jf {c:Prop} {n:Int} {K:Int->Prop} (hc:c) (h:0<=n/\n<=255) (h':K n):jk c .u8 n K:=by
 rw[dl,Dw h];exact⟨hc,h'⟩
theorem GQ {c:Prop} {k:IntKind} {n:Int} {K:Int->Prop} (hc:c) (h':K (k.wrap n)):jk c k n K:=by rw[dl];exact⟨hc,h'⟩
def j8:List AV->(List AV->Prop)->Prop
 |[],k=>k []
 |u::us,k=>j8 us fun us'=>k (u::us')
theorem dw:∀(us:List AV) (k:List AV->Prop),j8 us k=k us
 |[],_=>rfl
 |u::us,k=>by rw[j8,dw us]
def j9:AV->(AV->Prop)->Prop
 | .agg cs,k=>j8 cs fun cs'=>k (.agg cs')
 | .pd cs,k=>j8 cs fun cs'=>k (.pd cs')
 | .tup cs,k=>j8 cs fun cs'=>k (.tup cs')
 |u,k=>k u
theorem aK (u:AV) (k:AV->Prop):j9 u k=k u:=by
 cases u<;>simp[j9,dw]
def fg (r:Rs) (K:AV->Prop):Prop:=
 match r with
 | .no=>False
 | .val u=>j9 u K
 | .need c u=>fX c (j9 u K)
 | .arith c k n=>jk c k n fun m=>K (.int k m)
 | .cmp p i=>tT p i fun b=>K (.bool b)
theorem cC {r:Rs} {K K':AV->Prop} (h:fg r K) (hk:∀u,K u->K' u):fg r K':=by
 cases r with
 |no=>exact h
 |val u=>simp only[fg,aK] at*;exact hk _ h
 |need c u=>simp only[fg,aK] at*;simp only[bA] at*;exact⟨h.1,hk _ h.2⟩
 |arith c k n=>simp only[fg] at*;simp only[dl] at*;exact⟨h.1,hk _ h.2⟩
 |cmp p i=>simp only[fg] at*;simp only[gJ] at*;exact hk _ h
theorem fF {r:Rs} {K:AV->Prop} (h:fg r K):∃u,fg r (fun x=>x=u)/\K u:=by
 cases r with
 |no=>exact h.elim
 |val u=>simp only[fg,aK] at*;exact⟨u,rfl,h⟩
 |need c u=>simp only[fg,aK] at*;simp only[bA] at*;exact⟨u,⟨h.1,rfl⟩,h.2⟩
 |arith c k n=>simp only[fg] at*;simp only[dl] at*;exact⟨_,⟨h.1,rfl⟩,h.2⟩
 |cmp p i=>simp only[fg] at*;simp only[gJ] at*;exact⟨_,rfl,h⟩
theorem Ar {S:ae} {ρ:aw} {P:Program} {w:World} {m:Sem Next} {r:Rs} {K:AV->Prop} (h:fg r K) (hr:v9 S ρ P w m r):∃v u,m.run P w= .ok (.value v) w/\RV S ρ v u/\K u:=by
 cases r with
 |no=>exact h.elim
 |val u=>simp only[fg,aK] at h;obtain⟨v,e,hv⟩:=hr;exact⟨v,u,e,hv,h⟩
 |need c u=>simp only[fg,aK] at h;rw[bA] at h;obtain⟨v,e,hv⟩:=hr h.1;exact⟨v,u,e,hv,h.2⟩
 |arith c k n=>simp only[fg] at h;rw[dl] at h;exact⟨_,_,hr h.1, .p (.int _ _),h.2⟩
 |cmp p i=>simp only[fg] at h;rw[gJ] at h;exact⟨_,_,hr, .p (.bool _),h⟩
def lS:AV->Bool
 | .int _ _| .bool _| .str _| .nilsl| .sl _ _ _| .pd _=>true
 | .val v=>qE v
 | .fn _ []=>true
 |_=>false
def bZ:List AV->Bool
 |[]=>true
 |u::us=>match lS u with|true=>bZ us|false=>false
section
variable {S F:ae} {ρ:aw} {M:ah} {w:World}
theorem sy {u:AV} (h:qF u=true) {v:Value} (hv:RV S ρ v u):v.oneCell'=true:=by
 have key:∀x:Value,qE x=true->x.oneCell'=true:=by intro x hx;cases x<;>simp_all [qE,Value.oneCell']
 cases u with
 |top=>simp[qF] at h
 |agg _=>simp[qF] at h
 |tup _=>simp[qF] at h
 |val x=>rw[hv.val_inv];exact key _ h
 |int k n=>rw[hv.int_inv];rfl
 |bool b=>rw[hv.bool_inv];rfl
 |str b=>rw[hv.str_inv];rfl
 |nilsl=>rw[hv.nilsl_inv];rfl
 |sl d enc l=>obtain⟨b,c,rfl,_⟩:=oo hv.sl_inv;rfl
 |slc d enc l=>obtain⟨b,rfl,_⟩:=hv.slc_inv.slc_form;rfl
 |pd c=>cases hv.pd_inv;rfl
 |fn f c=>obtain⟨vs,rfl,_⟩:=hv.fn_inv;rfl
 |ptr a b=>obtain⟨b,_,rfl⟩:=hv.ptr_inv;rfl
 |row a b c=>obtain⟨b,_,_,_,_,rfl⟩:=hv.row_inv;rfl
 |rel a b c=>obtain⟨b,_,_,rfl⟩:=hv.rel_inv;rfl
 |part a b c d=>obtain⟨b,_,_,_,_,_,_,_,rfl⟩:=hv.part_inv;rfl
 |mp a=>obtain⟨b,_,rfl⟩:=hv.mp_inv;rfl
theorem iL:∀{us:List AV} {vs:List Value},allOne us=true->ba S ρ vs us->∀v∈vs,v.oneCell'=true
 |[],vs,_,hv=>by rw[hv.nil_inv];simp
 |u::us,vs,h,hv=>by
  obtain⟨x,xs,rfl,hx,hxs⟩:=hv.cons_inv
  simp only[allOne] at h
  split at h
  ·rename_i ho
   intro v hm
   rcases List.mem_cons.1 hm with rfl|hm
   ·exact sy ho hx
   ·exact iL h hxs v hm
  ·simp at h
theorem tU {u:AV} (h:lS u=true) {v:Value} (hv:RV S ρ v u):RP S v u/\qF u=true:=by
 cases u with
 |val x=>have:=hv.val_inv;subst this;exact⟨.val _,h⟩
 |int k n=>rw[hv.int_inv];exact⟨.int _ _,rfl⟩
 |bool b=>rw[hv.bool_inv];exact⟨.bool _,rfl⟩
 |str b=>rw[hv.str_inv];exact⟨.str _,rfl⟩
 |nilsl=>rw[hv.nilsl_inv];exact⟨.nilsl,rfl⟩
 |sl d enc l=>exact⟨hv.sl_inv,rfl⟩
 |pd c=>exact⟨hv.pd_inv,rfl⟩
 |fn f c=>
  cases c with
  |cons _ _=>simp[lS] at h
  |nil=>
   obtain⟨vs,rfl,hvs⟩:=hv.fn_inv
   have:vs=#[]:=by have:=hvs.1;simpa using this
   subst this
   exact⟨.fn f [] #[] rfl (fun _=>undef) (by simp) (by simp),rfl⟩
 |_=>simp[lS] at h
theorem eQ:∀{us:List AV} {vs:List Value},bZ us=true->ba S ρ vs us->lr S vs us/\allOne us=true
 |[],vs,_,hv=>by rw[hv.nil_inv];exact⟨lr.nil _,rfl⟩
 |u::us,vs,h,hv=>by
  obtain⟨x,xs,rfl,hx,hxs⟩:=hv.cons_inv
  simp only[bZ] at h
  split at h
  ·rename_i ho
   obtain⟨h1,h2⟩:=tU ho hx
   obtain⟨h3,h4⟩:=eQ h hxs
   exact⟨lr.cons h1 h3,by simp only[allOne,h2,h4]⟩
  ·simp at h
def dp:List AV->ah->(List AV->ah->Prop)->Prop
 |[],M,K=>K [] M
 |u::us,M,K=>match u with
  | .row ℓ _ _=>match M ℓ with
   |some (.row _ d enc l)=>dp us (M.set ℓ (.gone d enc l)) fun us' M'=>K (.sl d enc l::us') M'
   |some (.gone d enc l)=>dp us M fun us' M'=>K (.sl d enc l::us') M'
   |_=>False
  |u=>dp us M fun us' M'=>K (u::us') M'
theorem fY:∀(us:List AV) (vs:List Value) (S:ae) (M:ah) (K:List AV->ah->Prop),dp us M K->ba S ρ vs us->az S F ρ M w->
  ∃us' M' S',K us' M'/\S.le S'/\ba S' ρ vs us'/\az S' F ρ M' w/\(∀x B,M x=some B->∃B',M' x=some B')
 |[],vs,S,M,K,h,hv,hM=>⟨[],M,S,h,ae.le_refl _,hv,hM,fun x B hx=>⟨B,hx⟩⟩
 |u::us,vs,S,M,K,h,hv,hM=>by
  obtain⟨x,xs,rfl,hx,hxs⟩:=hv.cons_inv
  simp only[dp] at h
  split at h
  ·rename_i ℓ n sz
   split at h
   ·rename_i t α d enc l hl
    obtain⟨S1,b,hle,hb,hM1,hr⟩:=hM.leak hl
    obtain⟨b',hb',_,_,_,rfl⟩:=hx.row_inv
    rw[hb] at hb';cases hb'
    obtain⟨us',M',S',hK,hle',hvs',hM',hdom⟩:=fY us xs S1 _ _ h (hxs.mono hle (aw.le_refl _)) hM1
    refine⟨_,M',S',hK,ae.le_trans hle hle',ba.cons (.p (hr.mono hle')) hvs',hM',fun y B hy=>?_⟩
    by_cases e:y=ℓ
    ·subst e;exact hdom _ _ (ah.set_eq _ _ _)
    ·exact hdom y B (by rw[ah.set_ne _ _ e];exact hy)
   ·rename_i α d enc l hl
    obtain⟨b,hb,_,hr⟩:=hM.blk _ _ hl
    obtain⟨b',hb',_,_,_,rfl⟩:=hx.row_inv
    rw[hb] at hb';cases hb'
    obtain⟨us',M',S',hK,hle',hvs',hM',hdom⟩:=fY us xs S _ _ h hxs hM
    exact⟨_,M',S',hK,hle',ba.cons (.p (hr.mono hle')) hvs',hM',hdom⟩
   ·exact h.elim
  ·obtain⟨us',M',S',hK,hle',hvs',hM',hdom⟩:=fY us xs S _ _ h hxs hM
   exact⟨_,M',S',hK,hle',ba.cons (hx.mono hle' (aw.le_refl _)) hvs',hM',hdom⟩
end
structure oq {α:Type} (enc:α->List AV) (a:α) (o:Nat) (cs:List AV) (K:α->Prop):Prop where
 out:∃a',enc a'=eO (enc a) o cs/\K a'
theorem eY {α:Type} {enc:α->List AV} {a:α} {o:Nat} {cs:List AV} {K:α->Prop}:oq enc a o cs K↔(∃a',enc a'=eO (enc a) o cs/\K a'):=⟨fun h=>h.out,fun h=>⟨h⟩⟩
theorem ak {α:Type} {enc:α->List AV} {a:α} {o:Nat} {cs:List AV} {K:α->Prop} (a':α) (h:enc a'=eO (enc a) o cs) (hk:K a'):oq enc a o cs K:=by
 rw[eY];exact⟨a',h,hk⟩
def dQ (tt:TT) (t:TypeId) (us:List AV) (M:ah) (K:ah->Prop):Prop:=
 match us with
 |[a,x]=>match bK x,tt.find t with
  |some cs,some i=>match Nat.beq cs.length i.size with
   |true=>match a with
    | .ptr ℓ o=>match M ℓ with
     |some (.box bt cells)=>match allOne cs,Nat.ble (o+cs.length) cells.length with
      |true,true=>j8 (eO cells o cs) fun cells'=>K (M.set ℓ (.box bt cells'))
      |_,_=>False
     |_=>False
    | .rel ℓ j o=>dp cs M fun cs' M'=>match M' ℓ with
     |some (.row rt d enc l)=>match bZ cs',Nat.ble (o+cs'.length) (enc (l.getD j d)).length with
      |true,true=>oq enc (l.getD j d) o cs' fun a'=>K (M'.set ℓ (.row rt d enc (l.set j a')))
      |_,_=>False
     |_=>False
    |_=>False
   |false=>False
  |_,_=>False
 |_=>False
def iy (tt:TT) (t:TypeId) (dst:Option Tmp) (M:ah) (K:AV->ah->Prop):Prop:=
 match dst,tt.find t with
 |some d,some i=>match M d with
  |none=>j8 (i.zero.map cP) fun z=>K (.ptr d 0) (M.set d (.box t z))
  |some _=>False
 |_,_=>False
structure FA (t:TypeId) (cs:List AV) (d:Nat) (M:ah) (K:AV->ah->Prop):Prop where
 out:(bZ cs=true/\K (.pd cs) M)\/K (.ptr d 0) (M.set d (.box t cs))
theorem am {t:TypeId} {cs:List AV} {d:Nat} {M:ah} {K:AV->ah->Prop} (h:bZ cs=true) (hk:K (.pd cs) M):FA t cs d M K:=⟨.inl ⟨h,hk⟩⟩
theorem Dx {t:TypeId} {cs:List AV} {d:Nat} {M:ah} {K:AV->ah->Prop} (hk:K (.ptr d 0) (M.set d (.box t cs))):FA t cs d M K:=⟨.inr hk⟩
def Au (t:TypeId) (us:List AV) (dst:Option Tmp) (M:ah) (K:AV->ah->Prop):Prop:=
 match dst,us with
 |some d,[x]=>match M d,bK x with
  |none,some cs=>FA t cs d M K
  |_,_=>False
 |_,_=>False
def aD (n:Int):List AV:=[.int .i64 n]
structure Iw (Z:List AV) (bytes:Nat) (n c:Int) (K:(α:Type)->α->(α->List AV)->List α->Prop):Prop where
 out:(0<=n/\n<=c/\c*bytes<=140737488355328)/\∃(α:Type) (d:α) (enc:α->List AV) (z:α),enc z=Z/\K α d enc (List.replicate n.toNat z)
theorem jl {Z:List AV} {bytes:Nat} {n c:Int} {K:(α:Type)->α->(α->List AV)->List α->Prop}:Iw Z bytes n c K↔((0<=n/\n<=c/\c*bytes<=140737488355328)/\∃(α:Type) (d:α) (enc:α->List AV) (z:α),enc z=Z/\K α d enc (List.replicate n.toNat z)):=⟨fun h=>h.out,fun h=>⟨h⟩⟩
theorem yv {Z:List AV} {bytes:Nat} {n c:Int} {K:(α:Type)->α->(α->List AV)->List α->Prop} {α:Type} (d:α) (enc:α->List AV) (z:α) (hz:enc z=Z)
  (h:0<=n/\n<=c/\c*bytes<=140737488355328) (hk:K α d enc (List.replicate n.toNat z)):Iw Z bytes n c K:=by
 rw[jl];exact⟨h,α,d,enc,z,hz,hk⟩
def lh (tt:TT) (t:TypeId) (us:List AV) (dst:Option Tmp) (M:ah) (K:AV->ah->Prop):Prop:=
 match dst,us,tt.find t with
 |some d,[.int .i64 n, .int .i64 c],some ⟨_,_, .slice e,_⟩=>match M d,tt.find e with
  |none,some i=>match bZ (i.zero.map cP),i.bytes with
   |true,_+1=>Iw (i.zero.map cP) i.bytes n c fun _ dd enc l=>K (.row d n.toNat i.size) (M.set d (.row e dd enc l))
   |_,_=>False
  |_,_=>False
 |_,_,_=>False
def IQ (u v:AV):Prop:=u=v\/(u= .nilsl/\∃(α:Type) (d:α) (enc:α->List AV),v= .sl d enc [])
def E3:List AV->List AV->Prop
 |[],[]=>True
 |u::us,v::vs=>IQ u v/\E3 us vs
 |_,_=>False
def E4:List (List AV)->List (List AV)->Prop
 |[],[]=>True
 |u::us,v::vs=>E3 u v/\E4 us vs
 |_,_=>False
theorem tV:∀us,E3 us us
 |[]=>trivial
 |_::us=>⟨.inl rfl,tV us⟩
theorem lT:∀us,E4 us us
 |[]=>trivial
 |u::us=>⟨tV u,lT us⟩
theorem FB {S:ae} {v:Value} {u u':AV} (h:IQ u u') (hv:RP S v u):RP S v u':=by
 rcases h with rfl|⟨rfl,α,d,enc,rfl⟩
 ·exact hv
 ·cases hv
  exact .sl d enc [] none 0 0 (fun _ _=>undef) (by simp) (by simp) (by simp) (by simp) (by simp) (by simp)
theorem xc:∀{us us':List AV},E3 us us'->us.length=us'.length
 |[],[],_=>rfl
 |_::_,_::_,h=>by simp[xc h.2]
 |[],_::_,h=>h.elim
 |_::_,[],h=>h.elim
theorem xd:∀{us us':List AV} {j:Nat} {u':AV},E3 us us'->us'[j]? =some u'->∃u,us[j]? =some u/\IQ u u'
 |_::_,_::_,0,_,h,e=>by simp at e;subst e;exact⟨_,rfl,h.1⟩
 |_::_,_::_,j+1,_,h,e=>by simp at e;simpa using xd h.2 e
 |[],[],_,_,_,e=>by simp at e
 |[],_::_,_,_,h,_=>h.elim
 |_::_,[],_,_,h,_=>h.elim
theorem xf:∀{us us':List (List AV)},E4 us us'->us.length=us'.length
 |[],[],_=>rfl
 |_::_,_::_,h=>by simp[xf h.2]
 |[],_::_,h=>h.elim
 |_::_,[],h=>h.elim
theorem xg:∀{us us':List (List AV)} {j:Nat} {u':List AV},E4 us us'->us'[j]? =some u'->∃u,us[j]? =some u/\E3 u u'
 |_::_,_::_,0,_,h,e=>by simp at e;subst e;exact⟨_,rfl,h.1⟩
 |_::_,_::_,j+1,_,h,e=>by simp at e;simpa using xg h.2 e
 |[],[],_,_,_,e=>by simp at e
 |[],_::_,_,_,h,_=>h.elim
 |_::_,[],_,_,h,_=>h.elim
theorem FC {S:ae} {vs:List Value} {us us':List AV} (h:E3 us us') (hv:lr S vs us):lr S vs us':=
 ⟨hv.1.trans (xc h),fun _ _ hu=>let ⟨_,e,hw⟩:=xd h hu;let ⟨v,e2,hr⟩:=hv.2 _ _ e;⟨v,e2,FB hw hr⟩⟩
theorem xh:∀{us us':List AV},E3 us us'->allOne us=true->allOne us'=true
 |[],[],_,_=>rfl
 |u::us,u'::us',h,ho=>by
  simp only[allOne] at ho⊢
  cases hu:qF u with
  |false=>rw[hu] at ho;cases ho
  |true=>
   rw[hu] at ho
   have:qF u'=true:=by
    rcases h.1 with rfl|⟨_,α,d,enc,rfl⟩
    ·exact hu
    ·rfl
   rw[this]
   exact xh h.2 ho
 |[],_::_,h,_=>h.elim
 |_::_,[],h,_=>h.elim
structure Av (css:List (List AV)) (K:(α:Type)->α->(α->List AV)->List α->Prop):Prop where
 out:∃(α:Type) (d:α) (enc:α->List AV) (l:List α),E4 css (l.map enc)/\K α d enc l
theorem gK {css:List (List AV)} {K:(α:Type)->α->(α->List AV)->List α->Prop}:Av css K↔(∃(α:Type) (d:α) (enc:α->List AV) (l:List α),E4 css (l.map enc)/\K α d enc l):=⟨fun h=>h.out,fun h=>⟨h⟩⟩
theorem c8 {css:List (List AV)} {K:(α:Type)->α->(α->List AV)->List α->Prop} {α:Type} (d:α) (enc:α->List AV) (l:List α) (h:l.map enc=css) (hk:K α d enc l):Av css K:=by
 rw[gK];exact⟨α,d,enc,l,h▸lT _,hk⟩
theorem JD {css:List (List AV)} {K:(α:Type)->α->(α->List AV)->List α->Prop} {α:Type} (d:α) (enc:α->List AV) (l:List α) (h:E4 css (l.map enc)) (hk:K α d enc l):Av css K:=by
 rw[gK];exact⟨α,d,enc,l,h,hk⟩
def eA (n:Nat):List AV->Option (List (List AV))
 |[]=>some []
 |u::us=>match bK u,eA n us with
  |some cs,some r=>match Nat.beq cs.length n with
   |true=>some (cs::r)
   |false=>none
  |_,_=>none
def iM:List (List AV)->Bool
 |[]=>true
 |u::us=>match bZ u with|true=>iM us|false=>false
def o2:List (List AV)->Option (List Int)
 |[]=>some []
 |[.int .i64 n]::r=>match o2 r with
  |some l=>some (n::l)
  |none=>none
 |_=>none
def lU:List (List AV)->Option (List Int)
 |[]=>none
 |c::r=>o2 (c::r)
def lV:List Nat->Nat->Bool
 |[],_=>true
 |i::r,n=>match Nat.beq i n with|true=>lV r (n+1)|false=>false
def iz:List (List AV)->ah->(List (List AV)->ah->Prop)->Prop
 |[],M,K=>K [] M
 |cs::r,M,K=>dp cs M fun cs' M'=>iz r M' fun r' M''=>K (cs'::r') M''
def eh (tt:TT) (t:TypeId) (len:Nat) (is:List Nat) (us:List AV) (dst:Option Tmp) (M:ah) (K:AV->ah->Prop):Prop:=
 match dst,tt.find t with
 |some d,some ⟨_,_, .slice e,_⟩=>match tt.find e with
  |some i=>match lV is 0,Nat.beq is.length len,Nat.ble (len*i.size) 16777216,eA i.size us with
   |true,true,true,some css0=>iz css0 M fun css M'=>match M' d with
    |none=>match iM css with
     |true=>match lU css with
      |some ns=>K (.row d len i.size) (M'.set d (.row e (0:Int) aD ns))
      |none=>Av css fun α dd enc l=>K (.row d len i.size) (M'.set d (.row e dd enc l))
     |false=>False
    |some _=>False
   |_,_,_,_=>False
  |none=>False
 |_,_=>False
structure G8 {α β:Type} (enc:α->List AV) (l:List α) (enc':β->List AV) (l':List β) (K:List α->Prop) (K0:Prop):Prop where
 out:(l'.length<=l.length/\∃l'',l''.map enc=l'.map enc'/\K (l''++l.drop l'.length))\/(l=[]/\K0)
theorem JE {α β:Type} {enc:α->List AV} {l:List α} {enc':β->List AV} {l':List β} {K:List α->Prop} {K0:Prop} (l'':List α) (hl:l'.length=l.length) (h:l''.map enc=l'.map enc') (hk:K l''):G8 enc l enc' l' K K0:=
 ⟨.inl ⟨by omega,l'',h,by rw[hl,List.drop_length,List.append_nil];exact hk⟩⟩
def we {α:Type} (l:List α) (lo lo' k:Nat):List α:=l.take lo++((l.drop lo').take k++l.drop (lo+k))
def wf (tt:TT) (t:TypeId) (ℓ lo n sz ℓ' lo' m sz':Nat) (M:ah) (K:AV->ah->Prop):Prop:=
 match Nat.beq ℓ ℓ',Nat.beq sz sz' with
 |true,true=>match tt.find t,M ℓ with
  |some ⟨_,_, .slice e,_⟩,some (.row rt d enc l)=>match tt.find e with
   |some i=>match Nat.beq i.size sz with
    |true=>fX (0<n/\0<m) (K (.int .i64 ((Nat.min m n:Nat):Int)) (M.set ℓ (.row rt d enc (we l lo lo' (Nat.min m n)))))
    |false=>False
   |none=>False
  |_,_=>False
 |_,_=>False
def Aw (tt:TT) (ts:List TypeId) (us:List AV) (M:ah) (K:AV->ah->Prop):Prop:=
 match ts,us with
 |[t,_],[.row ℓ _ sz, .sl dd' enc' l']=>match tt.find t,M ℓ with
  |some ⟨_,_, .slice e,_⟩,some (.row rt d enc l)=>match tt.find e with
   |some i=>match Nat.beq i.size sz,Nat.beq (enc' (l'.getD 0 dd')).length i.size with
    |true,true=>G8 enc l enc' l' (fun l''=>K (.int .i64 (l'.length:Int)) (M.set ℓ (.row rt d enc l''))) (K (.int .i64 0) M)
    |_,_=>False
   |none=>False
  |_,_=>False
 |[t,_],[.part ℓ lo n sz, .part ℓ' lo' m sz']=>wf tt t ℓ lo n sz ℓ' lo' m sz' M K
 |_,_=>False
def sA (x:AV) (M:ah) (K:(α:Type)->α->(α->List AV)->List α->Prop):Prop:=
 match x with
 | .sl d enc l=>K _ d enc l
 | .row ℓ _ _=>match M ℓ with
  |some (.row _ d enc l)=>K _ d enc l
  |some (.gone d enc l)=>K _ d enc l
  |_=>False
 | .val (.slice _ 0 _)=>K Int 0 (fun n=>[.int .i64 n]) []
 |_=>False
structure tW {α β:Type} (enc:α->List AV) (l:List α) (enc':β->List AV) (l':List β) (bytes:Nat) (K:List α->Prop):Prop where
 out:((l.length+l'.length)*bytes<=140737488355328)/\∃l'',l''.map enc=l'.map enc'/\K l''
theorem gM {α β:Type} {enc:α->List AV} {l:List α} {enc':β->List AV} {l':List β} {bytes:Nat} {K:List α->Prop}:tW enc l enc' l' bytes K↔(((l.length+l'.length)*bytes<=140737488355328)/\∃l'',l''.map enc=l'.map enc'/\K l''):=⟨fun h=>h.out,fun h=>⟨h⟩⟩
theorem eC {α β:Type} {enc:α->List AV} {l:List α} {enc':β->List AV} {l':List β} {bytes:Nat} {K:List α->Prop} (l'':List α) (h:l''.map enc=l'.map enc')
  (hb:(l.length+l'.length)*bytes<=140737488355328) (hk:K l''):tW enc l enc' l' bytes K:=by
 rw[gM];exact⟨hb,l'',h,hk⟩
def fk (tt:TT) (ts:List TypeId) (us:List AV) (dst:Option Tmp) (M:ah) (K:AV->ah->Prop):Prop:=
 match dst,ts,us with
 |some d,[t,t'],[s,x]=>match tt.find t,c7 tt t',M d with
  |some ⟨_,_, .slice e,_⟩,true,none=>match tt.find e with
   |some i=>match i.bytes with
    |0=>False
    |_+1=>sA x M fun _ dd' enc' l'=>match Nat.beq (enc' (l'.getD 0 dd')).length i.size with
     |true=>match s with
      | .nilsl=>fX (l'.length*i.bytes<=140737488355328) (K (.row d l'.length i.size) (M.set d (.row e dd' enc' l')))
      | .slc dd enc l=>match Nat.beq (enc (l.getD 0 dd)).length i.size with
       |true=>fX (0<l'.length) (tW enc l enc' l' i.bytes fun l''=>K (.row d (l.length+l'.length) i.size) (M.set d (.row e dd enc (l++l''))))
       |false=>False
      | .row ℓ n sz=>match M ℓ,Nat.beq sz i.size with
       |some (.row e' dd enc l),true=>match Nat.beq e' e,(match x with| .row ℓ' _ _=>!(Nat.beq ℓ ℓ')|_=>true) with
        |true,true=>tW enc l enc' l' i.bytes fun l''=>K (.row d (n+l'.length) i.size) ((M.set ℓ .dead).set d (.row e dd enc (l++l'')))
        |_,_=>False
       |_,_=>False
      |_=>False
     |false=>False
   |none=>False
  |_,_,_=>False
 |_,_,_=>False
def JT (tt:TT) (ts:List TypeId) (ℓ lo n sz:Nat) (x:AV) (dst:Option Tmp) (M:ah) (K:AV->ah->Prop):Prop:=
 match dst,ts with
 |some d,[t,t']=>match tt.find t,c7 tt t',M d with
  |some ⟨_,_, .slice e,_⟩,true,none=>match tt.find e with
   |some i=>match i.bytes with
    |0=>False
    |_+1=>sA x M fun _ dd' enc' l'=>match Nat.beq (enc' (l'.getD 0 dd')).length i.size with
     |true=>match M ℓ,Nat.beq sz i.size with
      |some (.row e' dd enc l),true=>match Nat.beq e' e,(match x with| .row ℓ' _ _=>!(Nat.beq ℓ ℓ')|_=>true) with
       |true,true=>fX (0<n/\lo+n=l.length) (tW enc l enc' l' i.bytes fun l''=>K (.part d lo (n+l'.length) i.size) ((M.set ℓ .dead).set d (.row e dd enc (l++l'')))/\
         K (.part d 0 (n+l'.length) i.size) ((M.set ℓ .dead).set d (.row e dd enc (l.drop lo++l''))))
       |_,_=>False
      |_,_=>False
     |false=>False
   |none=>False
  |_,_,_=>False
 |_,_=>False
def JW (A:Prop) (tt:TT) (ts:List TypeId) (us:List AV) (dst:Option Tmp) (M:ah) (K:AV->ah->Prop):Prop:=
 match us with
 |[.part ℓ lo n sz,x]=>JT tt ts ℓ lo n sz x dst M K
 |_=>A
def sB (tt:TT) (t:TypeId) (us:List AV) (M:ah) (K:ah->Prop):Prop:=
 match us with
 |[.rel ℓ j o,x]=>match M ℓ with
  |some (.hdr rt g m)=>match bK x,tt.find t with
   |some cs,some i=>match Nat.beq cs.length i.size,allOne cs,Nat.ble (o+cs.length) (g j).length with
    |true,true,true=>K (M.set ℓ (.hdr rt (fun k=>match Nat.beq k j with|true=>eO (g j) o cs|false=>g k) m))
    |_,_,_=>False
   |_,_=>False
  |_=>dQ tt t [.rel ℓ j o,x] M K
 |us=>dQ tt t us M K
def G9 (tt:TT) (ts:List TypeId) (s:AV) (ℓ' sz':Nat) (e':TypeId) (g':Nat->List AV) (m':Nat) (dst:Option Tmp) (M:ah) (K:AV->ah->Prop):Prop:=
 match dst,ts with
 |some d,[t,t']=>match tt.find t,c7 tt t',M d with
  |some ⟨_,_, .slice e,_⟩,true,none=>match tt.find e with
   |some i=>match i.bytes,Nat.beq sz' i.size,Nat.beq e' e&&Nat.blt 0 m' with
    |_+1,true,true=>match s with
     | .nilsl=>fX (m'*i.bytes<=140737488355328) (K (.row d m' i.size) (M.set d (.hdr e g' m')))
     | .row ℓ n sz=>match M ℓ,Nat.beq sz i.size,Nat.beq ℓ ℓ' with
      |some (.hdr e2 g m),true,false=>match Nat.beq e2 e with
       |true=>fX ((m+m')*i.bytes<=140737488355328) (K (.row d (n+m') i.size) ((M.set ℓ .dead).set d (.hdr e (fun k=>match Nat.blt k m with|true=>g k|false=>g' (k-m)) (m+m'))))
       |false=>False
      |_,_,_=>False
     |_=>False
    |_,_,_=>False
   |none=>False
  |_,_,_=>False
 |_,_=>False
def FD (A:Prop) (tt:TT) (ts:List TypeId) (us:List AV) (dst:Option Tmp) (M:ah) (K:AV->ah->Prop):Prop:=
 match us with
 |[s, .row ℓ' _ sz']=>match M ℓ' with
  |some (.hdr e' g' m')=>G9 tt ts s ℓ' sz' e' g' m' dst M K
  |_=>A
 |_=>A
def FE (A:Prop) (tt:TT) (t:TypeId) (len:Nat) (is:List Nat) (us:List AV) (dst:Option Tmp) (M:ah) (K:AV->ah->Prop):Prop:=
 match us with
 |[u]=>match M 9999 with
  |some _=>match dst,tt.find t,bK u with
   |some d,some ⟨_,_, .slice e,_⟩,some cs=>match tt.find e,M d with
    |some i,none=>match lV is 0,Nat.beq is.length len,Nat.beq len 1,Nat.ble i.size 1000,Nat.beq cs.length i.size,allOne cs with
     |true,true,true,true,true,true=>K (.row d 1 i.size) (M.set d (.hdr e (fun _=>cs) 1))
     |_,_,_,_,_,_=>False
    |_,_=>False
   |_,_,_=>False
  |none=>A
 |_=>A
def IR (A:Prop) (tt:TT) (t:TypeId) (us:List AV) (M:ah) (K:AV->ah->Prop):Prop:=
 match M 9998 with
 |some _=>match us,tt.find t with
  |[.int .i64 n, .int .i64 c],some ⟨_,_, .slice e,_⟩=>match tt.find e with
   |some _=>fX (n=0/\c=0) (∀ad:Addr,K (.val (.slice (some ad) 0 0)) M)
   |none=>False
  |_,_=>False
 |none=>A
def o3 (tt:TT) (t:TypeId) (us:List AV) (dst:Option Tmp) (M:ah) (K:AV->ah->Prop):Prop:=
 match dst,us with
 |some d,[.str s]=>match tt.find t,M d with
  |some ⟨_,_, .string,_⟩,none=>K (.ptr d 0) (M.set d (.iter s 0))
  |_,_=>False
 |_,_=>False
structure Ax (s:ByteArray) (pos:Nat) (k1 k2:Prop):Prop where
 out:(pos<s.size->k1)/\(¬pos<s.size->k2)
theorem G' {s:ByteArray} {pos:Nat} {k1 k2:Prop} (h1:pos<s.size->k1) (h2:¬pos<s.size->k2):Ax s pos k1 k2:=⟨⟨h1,h2⟩⟩
theorem rc {s:ByteArray} {pos:Nat} {k1 k2:Prop}:Ax s pos k1 k2↔((pos<s.size->k1)/\(¬pos<s.size->k2)):=⟨fun h=>h.out,fun h=>⟨h⟩⟩
def tX (str:Bool) (us:List AV) (M:ah) (K:AV->ah->Prop):Prop:=
 match str,us with
 |true,[.ptr ℓ 0]=>match M ℓ with
  |some (.iter s pos)=>Ax s pos (K (.tup [.bool true, .int .i64 (pos:Int), .int .i32 ((Utf8.decode s pos).1:Int)]) (M.set ℓ (.iter s (pos+(Utf8.decode s pos).2)))) (K (.tup [.bool false]) M)
  |_=>False
 |_,_=>False
def ka (tt:TT) (ts:List TypeId) (us:List AV) (dst:Option Tmp) (M:ah) (K:AV->ah->Prop):Prop:=
 match dst,ts,us with
 |some d,[t,t'],[.nilsl, .int .i64 n]=>match tt.find t,tt.find t',M d with
  |some ⟨_,_, .slice e,_⟩,some ⟨_,_, .int _,_⟩,none=>match tt.find e with
   |some i=>match bZ (i.zero.map cP),i.bytes with
    |true,_+1=>Iw (i.zero.map cP) i.bytes n n fun _ dd enc l=>K (.row d n.toNat i.size) (M.set d (.row e dd enc l))
    |_,_=>False
   |none=>False
  |_,_,_=>False
 |_,_,_=>False
def jK (tt:TT) (ts:List TypeId) (us:List AV) (dst:Option Tmp) (M:ah) (K:AV->ah->Prop):Prop:=
 match us with
 |[_, .int _ _]=>ka tt ts us dst M K
 |_=>fk tt ts us dst M K
def sC (tt:TT) (t:TypeId) (ℓ n sz:Nat) (b:Int) (dst:Option Tmp) (M:ah) (K:AV->ah->Prop):Prop:=
 match dst,tt.find t with
 |some d,some ⟨_,_, .slice e,_⟩=>match tt.find e,M ℓ,M d with
  |some _,some (.row rt dd enc l),none=>fX (0<=b/\b<=n) (K (.row d b.toNat sz) ((M.set ℓ .dead).set d (.row rt dd enc (l.take b.toNat))))
  |_,_,_=>False
 |_,_=>False
end
section
def b8 (P:Program) (S F:ae) (ρ:aw) (w:World) (m:Sem Value) (K:AV->ah->Prop):Prop:=
 ∃v u M' S' ρ' w',m.run P w= .ok v w'/\K u M'/\S.le S'/\aw.le ρ ρ'/\az S' F ρ' M' w'/\RV S' ρ' v u/\bX w w'
def lW (P:Program) (S F:ae) (ρ:aw) (w:World) (m:Sem Unit) (K:ah->Prop):Prop:=
 ∃M' S' ρ' w',m.run P w= .ok () w'/\K M'/\S.le S'/\aw.le ρ ρ'/\az S' F ρ' M' w'/\bX w w'
section
variable {S F:ae} {ρ:aw} {M:ah} {w:World} {P:Program} {tt:TT}
theorem yw (hT:aW P tt=true) {t:TypeId} {dst:Option Tmp} {K:AV->ah->Prop} (h:iy tt t dst M K) (hM:az S F ρ M w):b8 P S F ρ w (Instr.alloc t true (.tuple #[])) K:=by
 unfold iy at h
 split at h
 ·rename_i d i ht
  split at h
  ·rename_i hd
   rw[dw] at h
   obtain⟨x,z,hx,_,_,hz,hzc,_⟩:=TOk.info hT ht
   let b:dZ:=⟨w.heap.size,0,0,0,false⟩
   refine⟨_,_,_,S,aw.set ρ d b,w.alloc (.cells z.cells t),?_,h,ae.le_refl _,aw.set_le _ (hM.fresh hd),hM.alloc hd _ t b _ (fun _=>rfl) ?_, .ptr d 0 b (aw.set_eq _ _ _),bX.alloc_cells _ _ _⟩
   ·simp only[Instr.alloc,zeroValue,typeInfo,Sem.run_bind,run_program,Result.andThen_ok,hx,Sem.run_pure,hz,newVar,newRow,run_newObj]
    rfl
   ·exact⟨z.cells,bp _ _,by rw[hzc];exact dN _,ae.inW_size hM.sw,ae.inW_size hM.fw⟩
  ·exact h.elim
 ·exact h.elim
theorem Dy {t:TypeId} {dst:Option Tmp} {K:AV->ah->Prop} {us:List AV} {v:Value} (h:Au t us dst M K) (hM:az S F ρ M w) (hv:ba S ρ [v] us):b8 P S F ρ w (Instr.box t v) K:=by
 unfold Au at h
 split at h
 ·rename_i d x
  split at h
  ·rename_i cs hd hcs
   obtain⟨y,ys,e,hy,_⟩:=hv.cons_inv
   injection e with e _
   subst e
   obtain⟨hc,_⟩:=gy hcs hy
   have hrun:(Instr.box t v).run P w= .ok (.pointer (some ⟨w.heap.size,0,none⟩)) (w.alloc (.cells v.cells t)):=by
    simp only[Instr.box,newVar,newRow,Sem.run_bind,run_newObj,Result.andThen_ok,Sem.run_pure]
    rfl
   rcases h.out with ⟨hp,h⟩|h
   ·obtain⟨hpc,_⟩:=eQ hp hc
    have hfresh:∀{S:ae},S.inW w->S w.heap.size=none:=fun h=>ae.inW_size h
    let S':ae:=fun k=>if k=w.heap.size then some (.cells v.cells t (0,0)) else S k
    have hS'k:∀k,k≠w.heap.size->S' k=S k:=fun k hk=>by show(if _ then _ else _)=_;rw[if_neg hk]
    have hS'b:S' w.heap.size=some (.cells v.cells t (0,0)):=by show(if _ then _ else _)=_;rw[if_pos rfl]
    have hle:ae.le S S':=fun k o hk=>by
     by_cases e:k=w.heap.size
     ·subst e;rw[hfresh hM.sw] at hk;cases hk
     ·rw[hS'k _ e];exact hk
    have hpd:RP S' (.pointer (some ⟨w.heap.size,0,none⟩)) (.pd cs):=by
     have hl:=hpc.1
     simp only[Array.length_toList] at hl
     refine .pd cs _ (fun j=>v.cells.getD j undef) (fun j hj=>?_) (fun j u hu=>?_)
     ·rw[Addr.add_mk]
      have:j<v.cells.size:=by omega
      simp[ae.cell,hS'b,this]
     ·obtain⟨y,hy,hr⟩:=hpc.2 j u hu
      have hy':v.cells[j]? =some y:=by simpa using hy
      have:v.cells.getD j undef=y:=by simp[hy']
      rw[this];exact hr.mono hle
    refine⟨_,_,M,S',ρ,_,hrun,h,hle,aw.le_refl _,⟨fun k o hk=>?_,ae.inW_alloc hM.fw _,fun k=>?_,hM.dom,fun ℓ B hB=>?_,hM.inj,hM.gl.mono hle⟩, .p hpd,bX.alloc_cells _ _ _⟩
    ·by_cases e:k=w.heap.size
     ·subst e;rw[hS'b] at hk;cases hk;exact bp _ _
     ·rw[hS'k _ e] at hk;exact ae.inW_alloc hM.sw _ k o hk
    ·by_cases e:k=w.heap.size
     ·subst e;exact .inr (hfresh hM.fw)
     ·rw[hS'k _ e];exact hM.sf k
    ·obtain⟨b,hb,hr⟩:=hM.blk _ _ hB
     refine⟨b,hb,hr.keep hle (aw.le_refl _) fun hl=>?_⟩
     have:=hr.lt hl
     exact⟨gz _ _ _ this,hS'k _ (by omega)⟩
   ·let b:dZ:=⟨w.heap.size,0,0,0,false⟩
    have hle:=aw.set_le b (hM.fresh hd)
    refine⟨_,_,_,S,aw.set ρ d b,_,hrun,h,ae.le_refl _,hle,hM.alloc hd _ t b _ (fun _=>rfl) ?_, .ptr d 0 b (aw.set_eq _ _ _),bX.alloc_cells _ _ _⟩
    exact⟨v.cells,bp _ _,hc.mono (ae.le_refl _) hle,ae.inW_size hM.sw,ae.inW_size hM.fw⟩
  ·exact h.elim
 ·exact h.elim
theorem eD {α:Type _} {l cs:List α} {o:Nat} (h:o+cs.length<=l.length):(l.take o++(cs++l.drop (o+cs.length))).length=l.length:=by
 simp;omega
theorem jm:∀{us:List AV},allOne us=true↔∀u∈us,qF u=true
 |[]=>by simp[allOne]
 |u::us=>by
  simp only[allOne,List.mem_cons,forall_eq_or_imp]
  cases h:qF u with
  |true=>simp[jm (us:=us)]
  |false=>simp
theorem qH {us cs:List AV} (h:allOne us=true) (h':allOne cs=true) (o:Nat):allOne (eO us o cs)=true:=by
 rw[jm] at*
 unfold eO
 intro u hu
 rcases List.mem_append.1 hu with hu|hu
 ·exact h u (List.mem_of_mem_take hu)
 ·rcases List.mem_append.1 hu with hu|hu
  ·exact h' u hu
  ·exact h u (List.mem_of_mem_drop hu)
theorem kM (hT:aW P tt=true) {t:TypeId} {K:ah->Prop} {us:List AV} {va vx:Value} (h:dQ tt t us M K) (hM:az S F ρ M w) (hv:ba S ρ [va,vx] us):lW P S F ρ w (Instr.storeAt t va vx) K:=by
 unfold dQ at h
 split at h
 ·rename_i a x
  obtain⟨y,ys,e,ha,hv⟩:=hv.cons_inv
  injection e with e e'
  subst e;subst e'
  obtain⟨y,ys,e,hx,_⟩:=hv.cons_inv
  injection e with e _
  subst e
  split at h
  ·rename_i cs i hcs ht
   obtain⟨hc,_⟩:=gy hcs hx
   have hlen:=hc.1
   simp only[Array.length_toList] at hlen
   split at h
   ·rename_i hsz
    have hsz:=Nat.eq_of_beq_eq_true hsz
    have hsize:=TOk.size hT ht w
    split at h
    ·rename_i ℓ o
     obtain⟨b,hb,rfl⟩:=ha.ptr_inv
     split at h
     ·rename_i bt cells hl
      obtain⟨b',hb',vs,hheap,hvs,hSb,hFb⟩:=hM.blk _ _ hl
      rw[hb] at hb';cases hb'
      split at h
      ·rename_i hone hle
       have hle:=Nat.le_of_ble_eq_true hle
       rw[dw] at h
       have hvl:=hvs.1
       simp only[Array.length_toList] at hvl
       have hst:=run_storeCells_at P b.blk o bt vx.cells.toList 0 vs w hheap (by simp;omega) (iL hone hc)
       refine⟨_,S,ρ,_,?_,h,ae.le_refl _,aw.le_refl _,hM.upd hl hb (w':=w.setRow b.blk (vs.toList.take (o+0)++vx.cells.toList++vs.toList.drop (o+0+vx.cells.toList.length)).toArray) (fun k hk=>?_) (fun hh=>hh) ?_,bX.setRow hheap⟩
       ·simp only[Instr.storeAt,Instr.sureAddr,Sem.run_bind,Sem.run_pure,Result.andThen_ok,storeVar,hsize,hlen,hsz]
        simpa using hst
       ·rcases hk with hk|hk
        ·exact setRow_other _ _ _ _ hk
        ·exact absurd trivial hk
       ·refine⟨_,setRow_heap _ _ _ _ _ _ hheap,?_,hSb,hFb⟩
        have:=hvs.splice_ hc o
        simpa[fj] using this
      ·exact h.elim
     ·exact h.elim
    ·rename_i ℓ j o
     obtain⟨b,hb,hj,rfl⟩:=ha.rel_inv
     obtain⟨cs',M',S',h,hS',hc',hM',_⟩:=fY _ _ _ _ _ h hc hM
     split at h
     ·rename_i rt α d enc l hl
      obtain⟨b',hb',hlen',hszs,hcase⟩:=hM'.blk _ _ hl
      rw[hb] at hb';cases hb'
      rcases hcase with ⟨_,rfl,_⟩|⟨hnil,hcap,vs,hheap,hvsz,hcell,hSb,hFb⟩
      ·simp at hlen';omega
      split at h
      ·rename_i hpers hle
       have hle:=Nat.le_of_ble_eq_true hle
       obtain⟨hpc,hone⟩:=eQ hpers hc'
       rw[eY] at h
       obtain⟨a',ha',h⟩:=h
       have hg:=ci (d:=d) (l:=l) (n:=j) (by omega)
       have hel:=(hszs _ (List.mem_of_getElem? hg)).1
       have hcl:=hc'.1
       have hrow:(j+1)*b.sz<=b.cap*b.sz:=Nat.mul_le_mul_right _ (by omega)
       rw[Nat.add_mul] at hrow
       simp only[Array.length_toList] at hcl
       have hst:=run_storeCells_at P b.blk (j*b.sz+o) rt vx.cells.toList 0 vs w hheap (by simp;omega) (iL hone hc')
       refine⟨_,S',ρ,_,?_,h,hS',aw.le_refl _,hM'.upd hl hb (w':=w.setRow b.blk (vs.toList.take (j*b.sz+o+0)++vx.cells.toList++vs.toList.drop (j*b.sz+o+0+vx.cells.toList.length)).toArray) (fun k hk=>?_) (fun hh=>hh) ?_,bX.setRow hheap⟩
       ·simp only[Instr.storeAt,Instr.sureAddr,Sem.run_bind,Sem.run_pure,Result.andThen_ok,storeVar,hsize,hlen,hsz]
        simpa using hst
       ·rcases hk with hk|hk
        ·exact setRow_other _ _ _ _ hk
        ·exact absurd hnil hk
       ·have hal:(enc a').length=b.sz:=by rw[ha'];unfold eO;rw[eD hle,hel]
        refine⟨by simpa using hlen',fun y hy=>?_, .inr ⟨hnil,by simpa using hcap,_,setRow_heap _ _ _ _ _ _ hheap,?_,fun k y m u hk hu=>?_,hSb,hFb⟩⟩
        ·rcases List.mem_or_eq_of_mem_set hy with hy|rfl
         ·exact hszs y hy
         ·exact⟨hal,by rw[ha'];exact qH (hszs _ (List.mem_of_getElem? hg)).2 hone o⟩
        ·simp only[Nat.add_zero,List.size_toArray,List.append_assoc]
         rw[eD (by simp;omega)]
         simpa using hvsz
        ·simp only[Nat.add_zero,List.append_assoc,List.getElem?_toArray]
         rw[fW (by simp;omega)]
         have hm:m<b.sz:=by
          have h1:=(List.getElem?_eq_some_iff.1 hu).1
          rw[List.getElem?_set] at hk
          split at hk
          ·split at hk
           ·cases hk;omega
           ·simp at hk
          ·have:=(hszs y (List.mem_of_getElem? hk)).1;omega
         by_cases hkj:k=j
         ·subst hkj
          rw[List.getElem?_set_self (by omega)] at hk
          cases hk
          rw[ha'] at hu
          unfold eO at hu
          rw[fW hle] at hu
          by_cases h1:m<o
          ·rw[if_pos (by omega)]
           rw[if_pos h1] at hu
           simpa using hcell k _ m u hg hu
          ·rw[if_neg h1] at hu
           rw[if_neg (by omega)]
           by_cases h2:m<o+cs'.length
           ·rw[if_pos h2] at hu
            rw[if_pos (by simp;omega)]
            obtain⟨v,hv,hr⟩:=hpc.2 _ u hu
            exact⟨v,by rw[<-hv];congr 1;omega,hr⟩
           ·rw[if_neg h2] at hu
            rw[if_neg (by simp;omega)]
            simpa using hcell k _ m u hg hu
         ·rw[List.getElem?_set_ne (by omega)] at hk
          have hother:k*b.sz+m<j*b.sz\/j*b.sz+b.sz<=k*b.sz+m:=by
           rcases Nat.lt_or_ge k j with hh|hh
           ·left
            have:(k+1)*b.sz<=j*b.sz:=Nat.mul_le_mul_right _ (by omega)
            rw[Nat.add_mul] at this;omega
           ·right
            have:(j+1)*b.sz<=k*b.sz:=Nat.mul_le_mul_right _ (by omega)
            rw[Nat.add_mul] at this;omega
          have hget:=hcell k y m u hk hu
          by_cases h1:k*b.sz+m<j*b.sz+o
          ·rw[if_pos h1];simpa using hget
          ·rw[if_neg h1,if_neg (by simp;omega)];simpa using hget
      ·exact h.elim
     ·exact h.elim
    ·exact h.elim
   ·exact h.elim
  ·exact h.elim
 ·exact h.elim
end
end
section
section
variable {S F:ae} {ρ:aw} {M:ah} {w:World} {P:Program} {tt:TT}
theorem kb {z:List Value} {j:Nat} {u:AV} (h:(z.map cP)[j]? =some u):∃v,z[j]? =some v/\RP S v u:=by
 rw[List.getElem?_map] at h
 obtain⟨v,hv,rfl⟩:=Option.map_eq_some_iff.1 h
 exact⟨v,hv,iK v⟩
theorem tY (hT:aW P tt=true) {t:TypeId} {dst:Option Tmp} {K:AV->ah->Prop} {us:List AV} {vl vc:Value} (h:lh tt t us dst M K) (hM:az S F ρ M w) (hv:ba S ρ [vl,vc] us):b8 P S F ρ w (Instr.makeSlice t vl vc) K:=by
 unfold lh at h
 split at h
 ·rename_i d n c sz0 by0 e z0 ht
  obtain⟨y,ys,e1,hn,hv⟩:=hv.cons_inv
  injection e1 with e1 e2;subst e1;subst e2
  obtain⟨y,ys,e1,hc,_⟩:=hv.cons_inv
  injection e1 with e1 _;subst e1
  cases hn.int_inv;cases hc.int_inv
  have hte:=TOk.slice hT ht
  split at h
  ·rename_i i hd hi
   obtain⟨x,z,hx,hxs,hxb,hz,hzc,_,hzl⟩:=TOk.info hT hi
   split at h
   ·rename_i m hp hbm
    have hbpos:0<i.bytes:=by rw[hbm];omega
    rw[jl] at h
    obtain⟨⟨h0,h1,h2⟩,α,dd,enc,zz,henc,hK⟩:=h
    have hc47:c<=140737488355328:=by
     have:c*1<=c*(i.bytes:Int):=Int.mul_le_mul_of_nonneg_left (by omega) (by omega)
     omega
    have wn:IntKind.i64.wrap n=n:=j7 (by omega)
    have wc:IntKind.i64.wrap c=c:=j7 (by omega)
    let b:dZ:=⟨w.heap.size,n.toNat,c.toNat,i.size,false⟩
    let zero:Array Value:=if c.toNat*i.size=0 then#[] else z.cells
    let arr:Array Value:=(Array.range (c.toNat*i.size)).map (zero[· % zero.size]!)
    have harr:arr.size=c.toNat*i.size:=by simp[arr]
    refine⟨.slice (some ⟨w.heap.size,0,none⟩) n.toNat c.toNat,_,_,S,aw.set ρ d b,w.alloc (.cells arr e),?_,hK,ae.le_refl _,aw.set_le _ (hM.fresh hd),hM.alloc hd _ e b _ (fun _=>rfl) ?_,?_,bX.alloc_cells _ _ _⟩
    ·have t1:(decide (c<0)||decide ((i.bytes:Int)*c>2^48))=false:=by
      simp only[Bool.or_eq_false_iff,decide_eq_false_iff_not]
      refine⟨by omega,?_⟩
      rw[Int.mul_comm]
      have:(2:Int)^48=281474976710656:=by decide
      omega
     have hsz:(Go.sizeOf e).run P w= .ok i.size w:=TOk.size hT hi w
     have hcell:(c.toNat*i.size=0\/c.toNat*i.size≠0):=by omega
     simp only[Instr.makeSlice,Sem.run_bind,run_underlying hte,Result.andThen_ok,asInt,asIntOf,Sem.run_pure,typeInfo,run_program,hx,hxb,wn,wc,t1,Bool.false_or,Sem.run_ite]
     have t2:(decide (n<0)||decide (n>c))=false:=by
      simp only[Bool.or_eq_false_iff,decide_eq_false_iff_not];omega
     rw[if_neg (by simpa using t2)]
     simp only[Sem.run_pure,Result.andThen_ok,Sem.run_bind,run_askRoom,hsz,Sem.run_ite]
     rcases hcell with h'|h'
     ·simp only[h',if_true,Sem.run_pure,Result.andThen_ok,newRow,Sem.run_bind,run_newObj]
      simp only[arr,zero,h',if_true]
      rfl
     ·simp only[h',if_false,zeroValue,typeInfo,Sem.run_bind,run_program,hx,hz,Sem.run_pure,Result.andThen_ok,newRow,run_newObj]
      simp only[arr,zero,h',if_false]
      rfl
    ·refine⟨by simp[b],fun a ha=>?_, .inr ⟨rfl,by simp[b];omega,arr,bp _ _,harr,fun k a j u hk hu=>?_,ae.inW_size hM.sw,ae.inW_size hM.fw⟩⟩
     ·rw[List.eq_of_mem_replicate ha,henc];exact⟨by simpa[b] using hzl,(eQ (S:=S) (ρ:=ρ) hp (dN _)).2⟩
     ·have hk':k<n.toNat:=by have:=(List.getElem?_eq_some_iff.1 hk).1;simpa using this
      have ha:a=zz:=List.eq_of_mem_replicate (List.mem_of_getElem? hk)
      subst ha
      rw[henc] at hu
      obtain⟨v,hv,hr⟩:=kb (S:=S) hu
      refine⟨v,?_,hr⟩
      have hj:j<i.size:=by rw[<-hzl];exact(List.getElem?_eq_some_iff.1 hv).1
      have hlt:k*i.size+j<c.toNat*i.size:=by
       have:(k+1)*i.size<=c.toNat*i.size:=Nat.mul_le_mul_right _ (by omega)
       rw[Nat.add_mul] at this;omega
      have hne:c.toNat*i.size≠0:=by omega
      show arr[k*i.size+j]? =some v
      have hzs:z.cells.size=i.size:=by rw[<-Array.length_toList,hzc,hzl]
      have hmod:(k*i.size+j) % i.size=j:=by rw[Nat.mul_comm,Nat.mul_add_mod];exact Nat.mod_eq_of_lt hj
      have hzj:z.cells[j]? =some v:=by rw[<-hzc] at hv;simpa using hv
      simp only[arr,zero,hne,if_false]
      simp[hlt,hzs,hmod]
      obtain⟨hjl,hjv⟩:=Array.getElem?_eq_some_iff.1 hzj
      rw[getElem!_pos z.cells j hjl];exact hjv
    ·have:=RV.row (S:=S) (ρ:=aw.set ρ d b) d n.toNat i.size b (aw.set_eq _ _ _) rfl rfl (by simp[b])
     exact this
   ·exact h.elim
  ·exact h.elim
 ·exact h.elim
theorem re:∀(css:List (List AV)) (vss:List (List Value)) (S:ae) (M:ah) (K:List (List AV)->ah->Prop),iz css M K->vss.length=css.length->
  (∀(i:Nat) cs vs,css[i]? =some cs->vss[i]? =some vs->ba S ρ vs cs)->az S F ρ M w->
  ∃css' M' S',K css' M'/\S.le S'/\vss.length=css'.length/\(∀(i:Nat) cs vs,css'[i]? =some cs->vss[i]? =some vs->ba S' ρ vs cs)/\az S' F ρ M' w/\(∀x B,M x=some B->∃B',M' x=some B')
 |[],vss,S,M,K,h,hl,hv,hM=>⟨[],M,S,h,ae.le_refl _,hl,by simp,hM,fun x B hx=>⟨B,hx⟩⟩
 |cs::r,vss,S,M,K,h,hl,hv,hM=>by
  cases vss with
  |nil=>simp at hl
  |cons vs vss=>
   simp only[iz] at h
   obtain⟨cs',M1,S1,h1,hle1,hv1,hM1,hd1⟩:=fY _ _ _ _ _ h (hv 0 cs vs (by simp) (by simp)) hM
   obtain⟨css',M',S',hK,hle2,hlen,hv2,hM2,hd2⟩:=re r vss S1 M1 _ h1 (by simpa using hl) (fun i cs vs h1 h2=>(hv (i+1) cs vs (by simpa using h1) (by simpa using h2)).mono hle1 (aw.le_refl _)) hM1
   refine⟨_,M',S',hK,ae.le_trans hle1 hle2,by simp[hlen],fun i cs vs h1 h2=>?_,hM2,fun x B hx=>?_⟩
   ·cases i with
    |zero=>simp at h1 h2;subst h1;subst h2;exact hv1.mono hle2 (aw.le_refl _)
    |succ i=>exact hv2 i cs vs (by simpa using h1) (by simpa using h2)
   ·obtain⟨B1,hB1⟩:=hd1 x B hx;exact hd2 x B1 hB1
theorem nR {n:Nat}:∀{us:List AV} {css:List (List AV)} {vs:List Value},eA n us=some css->ba S ρ vs us->
  css.length=us.length/\(∀v∈vs,v.cells.size=n)/\∀(i:Nat) cs v,css[i]? =some cs->(vs.map (fun v=>v.cells.toList))[i]? =some v->ba S ρ v cs
 |[],css,vs,h,hv=>by
  simp only[eA,Option.some.injEq] at h;subst h
  rw[hv.nil_inv];simp
 |u::us,css,vs,h,hv=>by
  obtain⟨x,xs,rfl,hx,hxs⟩:=hv.cons_inv
  simp only[eA] at h
  split at h
  ·rename_i cs r hcs hr
   split at h
   ·rename_i hlen
    have hlen:=Nat.eq_of_beq_eq_true hlen
    simp only[Option.some.injEq] at h;subst h
    obtain⟨h1,h2,h3⟩:=nR hr hxs
    obtain⟨hc,_⟩:=gy hcs hx
    refine⟨by simp[h1],fun v hv=>?_,fun i cs' v hi hv=>?_⟩
    ·rcases List.mem_cons.1 hv with rfl|hv
     ·have:=hc.1;simp only[Array.length_toList] at this;omega
     ·exact h2 v hv
    ·cases i with
     |zero=>simp at hi hv;subst hi;subst hv;exact hc
     |succ i=>exact h3 i cs' v (by simpa using hi) (by simpa using hv)
   ·simp at h
  ·simp at h
theorem o4:∀(is:List Nat) (k:Nat),lV is k=true->is=List.range' k is.length
 |[],k,_=>by simp
 |i::r,k,h=>by
  simp only[lV] at h
  split at h
  ·rename_i hi
   have:=Nat.eq_of_beq_eq_true hi
   subst this
   rw[List.length_cons,List.range'_succ,<-o4 r (i+1) h]
  ·simp at h
theorem o5 (size:Nat):∀(vs:List Value) (k:Nat) (arr:Array Value),(∀v∈vs,v.cells.size=size)->(k+vs.length)*size<=arr.size->
  ∃arr',Instr.fill (fun i=>some (i*size,size)) arr ((List.range' k vs.length).zip vs)=some arr'/\arr'.size=arr.size/\(∀i,i<k*size->arr'[i]? =arr[i]?)/\
   ∀(m:Nat) v j,vs[m]? =some v->j<size->arr'[(k+m)*size+j]? =v.cells[j]?
 |[],k,arr,_,_=>⟨arr,by simp[Instr.fill],rfl,fun _ _=>rfl,by simp⟩
 |v::vs,k,arr,hs,hl=>by
  have hv:=hs v (by simp)
  have hkl:(k+1+vs.length)*size<=arr.size:=by simpa[Nat.add_assoc,Nat.add_comm,Nat.add_left_comm] using hl
  have hk1:(k+1)*size<=arr.size:=Nat.le_trans (Nat.mul_le_mul_right _ (by omega)) hkl
  rw[Nat.add_mul] at hk1
  let arr1:=v.cells.zipIdx.foldl (fun cs (p:Value×Nat)=>cs.setIfInBounds (k*size+p.2) p.1) arr
  have e1:arr1.toList=fj arr.toList (k*size) v.cells.toList:=by
   have:=rb v.cells.toList 0 (k*size) arr (by simp;omega)
   simp only[Nat.add_zero] at this
   rw[<-this]
   show(Array.foldl (fun cs (p:Value×Nat)=>cs.setIfInBounds (k*size+p.2) p.1) arr v.cells.zipIdx).toList=_
   rw[<-Array.foldl_toList,Array.toList_zipIdx]
  have hget:∀i,arr1[i]? =if i<k*size then arr[i]? else if i<k*size+size then v.cells[i-k*size]? else arr[i]?:=by
   intro i
   have:arr1[i]? =arr1.toList[i]?:=by simp
   rw[this,e1]
   unfold fj
   rw[fW (by simp;omega)]
   simp[hv]
  have hsz1:arr1.size=arr.size:=by
   rw[<-Array.length_toList,e1]
   unfold fj
   rw[eD (by simp;omega)]
   simp
  obtain⟨arr',hf,h1,h2,h3⟩:=o5 size vs (k+1) arr1 (fun x hx=>hs x (by simp[hx])) (by rw[hsz1];exact hkl)
  refine⟨arr',?_,h1.trans hsz1,fun i hi=>?_,fun m x j hm hj=>?_⟩
  ·rw[List.length_cons,List.range'_succ,List.zip_cons_cons]
   simp only[Instr.fill]
   rw[if_neg (by simp;omega)]
   exact hf
  ·rw[h2 i (by rw[Nat.add_mul];omega),hget,if_pos hi]
  ·cases m with
   |zero=>
    simp at hm;subst hm
    rw[Nat.add_zero,h2 _ (by rw[Nat.add_mul];omega),hget,if_neg (by omega),if_pos (by omega)]
    congr 1;omega
   |succ m=>
    have:=h3 m x j (by simpa using hm) hj
    rw[<-this]
    congr 2
    rw[show k+(m+1)=k+1+m from by omega]
theorem lX:∀{css:List (List AV)},iM css=true->∀(i:Nat) cs,css[i]? =some cs->bZ cs=true
 |[],_,i,cs,h=>by simp at h
 |c::r,h,i,cs,hi=>by
  simp only[iM] at h
  split at h
  ·rename_i hp
   cases i with
   |zero=>simp at hi;subst hi;exact hp
   |succ i=>exact lX h i cs (by simpa using hi)
  ·simp at h
theorem rf:∀{css:List (List AV)} {ns:List Int},o2 css=some ns->ns.map aD=css
 |[],ns,h=>by simp only[o2,Option.some.injEq] at h;subst h;rfl
 |c::r,ns,h=>by
  unfold o2 at h
  split at h
  ·rename_i e;cases e
  ·rename_i n r' e
   injection e with e1 e2
   subst e1;subst e2
   split at h
   ·rename_i l hl
    simp only[Option.some.injEq] at h;subst h
    rw[List.map_cons,rf hl];rfl
   ·simp at h
  ·simp at h
theorem wg {css:List (List AV)} {ns:List Int} (h:lU css=some ns):ns.map aD=css:=by
 unfold lU at h
 split at h
 ·cases h
 ·exact rf h
theorem m6 (hT:aW P tt=true) {t:TypeId} {len:Nat} {is:List Nat} {dst:Option Tmp} {K:AV->ah->Prop} {us:List AV} {vs:List Value} (h:eh tt t len is us dst M K) (hM:az S F ρ M w) (hv:ba S ρ vs us)
  (hlen:is.length=vs.length):b8 P S F ρ w (Instr.buildSlice t len (is.zip vs).toArray) K:=by
 unfold eh at h
 split at h
 ·rename_i d sz0 by0 e z0 ht
  have hte:=TOk.slice hT ht
  split at h
  ·rename_i i hi
   obtain⟨x,z,hx,hxs,hxb,hz,hzc,_,hzl⟩:=TOk.info hT hi
   split at h
   ·rename_i css0 hr hl hle hcs
    have hl:=Nat.eq_of_beq_eq_true hl
    have hle:=Nat.le_of_ble_eq_true hle
    have his:=o4 is 0 hr
    obtain⟨hcl,hcsz,hcr⟩:=nR hcs hv
    obtain⟨css,M',S',h,hS',hlen',hcr',hM',_⟩:=re css0 (vs.map fun v=>v.cells.toList) S M _ h (by simp[hcl,hv.1]) hcr hM
    split at h
    ·rename_i hd
     split at h
     ·rename_i hp
      have hsz:(Go.sizeOf e).run P w= .ok i.size w:=TOk.size hT hi w
      let zero:Array Value:=if len*i.size=0 then#[] else z.cells
      let arr:Array Value:=(Array.range (len*i.size)).map (zero[· % zero.size]!)
      have harr:arr.size=len*i.size:=by simp[arr]
      obtain⟨arr',hf,hs',_,hg'⟩:=o5 i.size vs 0 arr hcsz (by rw[harr];simp;rw[<-hlen,hl];exact Nat.le_refl _)
      have his':is=List.range' 0 vs.length:=by rw[<-hlen];exact his
      have hrun:(Instr.buildSlice t len (is.zip vs).toArray).run P w= .ok (.slice (some ⟨w.heap.size,0,none⟩) len len) (w.alloc (.cells arr' e)):=by
       rw[his']
       simp only[Instr.buildSlice,Sem.run_bind,run_underlying hte,Result.andThen_ok,hsz,Sem.run_ite]
       rw[if_neg (by have:(2:Nat)^24=16777216:=(by decide);omega)]
       simp only[Sem.run_pure,Result.andThen_ok,Sem.run_bind,Sem.run_ite]
       by_cases h':len*i.size=0
       ·simp only[arr,zero,h',if_true] at hf
        simp only[h',if_true,Sem.run_pure,Result.andThen_ok,List.toList_toArray,hf,newRow,Sem.run_bind,run_newObj]
        rfl
       ·simp only[arr,zero,h',if_false] at hf
        simp only[h',if_false,zeroValue,typeInfo,Sem.run_bind,run_program,hx,hz,Sem.run_pure,Result.andThen_ok,List.toList_toArray,hf,newRow,run_newObj]
        rfl
      have fin:∀(α:Type) (dd:α) (enc:α->List AV) (l:List α),E4 css (l.map enc)->K (.row d len i.size) (M'.set d (.row e dd enc l))->b8 P S F ρ w (Instr.buildSlice t len (is.zip vs).toArray) K:=by
       intro α dd enc l hlc hK
       let b:dZ:=⟨w.heap.size,len,len,i.size,false⟩
       have hll:l.length=len:=by
        have h1:l.length=css.length:=by rw[xf hlc];simp
        have h2:vs.length=css.length:=by simpa using hlen'
        omega
       refine⟨_,_,_,S',aw.set ρ d b,_,hrun,hK,hS',aw.set_le _ (hM'.fresh hd),hM'.alloc hd _ e b _ (fun _=>rfl) ?_, .row d len i.size b (aw.set_eq _ _ _) rfl rfl (by simp[b]),bX.alloc_cells _ _ _⟩
       have hcell:∀(k:Nat) a,l[k]? =some a->∃v,vs[k]? =some v/\lr S' v.cells.toList (enc a)/\allOne (enc a)=true:=by
        intro k a hk
        obtain⟨cs,hck,hw⟩:=xg (j:=k) (u':=enc a) hlc (by rw[List.getElem?_map,hk];rfl)
        have hkl:k<vs.length:=by
         have h1:=(List.getElem?_eq_some_iff.1 hck).1
         have h2:vs.length=css.length:=by simpa using hlen'
         omega
        have hh:=eQ (lX hp k _ hck) (hcr' k cs _ hck (by rw[List.getElem?_map,List.getElem?_eq_getElem hkl];rfl))
        exact⟨vs[k],by simp,FC hw hh.1,xh hw hh.2⟩
       refine⟨by simp[b,hll],fun a ha=>?_, .inr ⟨rfl,by simp[b,hll],arr',bp _ _,by rw[hs',harr],fun k a j u hk hu=>?_,ae.inW_size hM'.sw,ae.inW_size hM'.fw⟩⟩
       ·obtain⟨k,hk⟩:=List.getElem?_of_mem ha
        obtain⟨v,hvk,hvr,hpe⟩:=hcell k a hk
        refine⟨?_,hpe⟩
        have h1:=hvr.1
        have h2:=hcsz v (List.mem_of_getElem? hvk)
        simp only[Array.length_toList] at h1
        show(enc a).length=i.size
        omega
       ·obtain⟨v,hvk,hvr,hpe⟩:=hcell k a hk
        have hpr:=hvr
        obtain⟨y,hy,hr⟩:=hpr.2 j u hu
        have hj:j<i.size:=by
         have h1:=(List.getElem?_eq_some_iff.1 hy).1
         have h2:=hcsz v (List.mem_of_getElem? hvk)
         simp only[Array.length_toList] at h1
         omega
        refine⟨y,?_,hr⟩
        have:=hg' k v j hvk hj
        rw[Nat.zero_add] at this
        show arr'[k*i.size+j]? =some y
        rw[this]
        simpa using hy
      split at h
      ·rename_i ns hns
       exact fin Int 0 aD ns (wg hns▸lT _) h
      ·rw[gK] at h
       obtain⟨α,dd,enc,l,hlc,hK⟩:=h
       exact fin α dd enc l hlc hK
     ·exact h.elim
    ·exact h.elim
   ·exact h.elim
  ·exact h.elim
 ·exact h.elim
end
end
section
section
variable {S F:ae} {ρ:aw} {M:ah} {w:World} {P:Program} {tt:TT}
structure tD (S:ae) (w:World) (v:Value) {β:Type} (enc:β->List AV) (l:List β) (sz:Nat) (news:List Value):Prop where
 form:∃base cap,v= .slice base l.length cap/\((base=none/\news=[])\/∃ad,base=some ad/\∀j u,news[j]? =some u->w.cell? (ad.add j)=some u)
 len:news.length=l.length*sz
 szs:∀a∈l,(enc a).length=sz
 one:∀a∈l,allOne (enc a)=true
 vals:∀i a j u,l[i]? =some a->(enc a)[j]? =some u->∃v,news[i*sz+j]? =some v/\RP S v u
theorem tD.of_sl {β:Type} {d:β} {enc:β->List AV} {l:List β} {v:Value} (hS:S.inW w) (h:RP S v (.sl d enc l)) {n:Nat} (hn:(enc (l.getD 0 d)).length=n):∃news,tD S w v enc l n news:=by
 have hall:=Ap h hn
 cases h with
 |sl _ _ _ base cap sz vals hcap ho hsz hb hn' hv=>
  by_cases hl:l=[]
  ·subst hl
   refine⟨[],⟨base,cap,rfl,?_⟩,by simp,by simp,by simp,by simp⟩
   cases base with
   |none=>exact .inl ⟨rfl,rfl⟩
   |some a=>exact .inr ⟨a,rfl,by simp⟩
  ·have hpos:0<l.length:=List.length_pos_iff.2 hl
   have hs:sz=n:=by
    have hm:=List.getElem_mem hpos
    rw[<-hsz _ hm,hall _ hm]
   subst hs
   cases base with
   |none=>exact absurd rfl (hn' hl)
   |some ad=>
    by_cases hz:sz=0
    ·subst hz
     refine⟨[],⟨some ad,cap,rfl, .inr ⟨ad,rfl,by simp⟩⟩,by simp,hall,ho,fun i a j u ha hu=>?_⟩
     have:=hall a (List.mem_of_getElem? ha)
     have:=(List.getElem?_eq_some_iff.1 hu).1
     omega
    ·have hzp:0<sz:=by omega
     let news:List Value:=(List.range (l.length*sz)).map fun k=>vals (k / sz) (k % sz)
     have hnews:∀i j,i<l.length->j<sz->news[i*sz+j]? =some (vals i j):=by
      intro i j hi hj
      have hlt:i*sz+j<l.length*sz:=by
       have:(i+1)*sz<=l.length*sz:=Nat.mul_le_mul_right _ (by omega)
       rw[Nat.add_mul] at this;omega
      have h1:(i*sz+j) / sz=i:=by rw[Nat.mul_comm,Nat.mul_add_div hzp,Nat.div_eq_of_lt hj];rfl
      have h2:(i*sz+j) % sz=j:=by rw[Nat.mul_comm,Nat.mul_add_mod];exact Nat.mod_eq_of_lt hj
      simp[news,hlt,h1,h2]
     refine⟨news,⟨some ad,cap,rfl, .inr ⟨ad,rfl,fun k u hk=>?_⟩⟩,by simp[news],hall,ho,fun i a j u ha hu=>?_⟩
     ·have hk':k<l.length*sz:=by have:=(List.getElem?_eq_some_iff.1 hk).1;simpa[news] using this
      have h1:k / sz<l.length:=by rw[Nat.div_lt_iff_lt_mul hzp];exact hk'
      have h2:k % sz<sz:=Nat.mod_lt _ hzp
      obtain⟨ad',e,hc⟩:=hb _ _ h1 h2
      injection e with e;subst e
      have hkk:k / sz*sz+k % sz=k:=by rw[Nat.mul_comm];exact Nat.div_add_mod k sz
      have:=hnews _ _ h1 h2
      rw[hkk] at this hc
      rw[hk] at this
      injection this with this
      rw[this]
      exact ae.cell_w hS hc
     ·have hi:=(List.getElem?_eq_some_iff.1 ha).1
      have hj:j<sz:=by rw[<-hall a (List.mem_of_getElem? ha)];exact(List.getElem?_eq_some_iff.1 hu).1
      exact⟨_,hnews i j hi hj,hv _ _ _ _ ha hu⟩
theorem kN {α:Type} {l:List α} {enc:α->List AV} {vs:Array Value} {sz:Nat} (h:l.length*sz<=vs.size) (hs:∀a∈l,(enc a).length=sz)
  (hc:∀i a j u,l[i]? =some a->(enc a)[j]? =some u->∃v,vs[i*sz+j]? =some v/\RP S v u):
  (vs.toList.take (l.length*sz)).length=l.length*sz/\∀i a j u,l[i]? =some a->(enc a)[j]? =some u->∃v,(vs.toList.take (l.length*sz))[i*sz+j]? =some v/\RP S v u:=by
 refine⟨by simp;omega,fun i a j u ha hu=>?_⟩
 obtain⟨v,hv,hr⟩:=hc i a j u ha hu
 have hi:=(List.getElem?_eq_some_iff.1 ha).1
 have hj:j<sz:=by rw[<-hs a (List.mem_of_getElem? ha)];exact(List.getElem?_eq_some_iff.1 hu).1
 have hlt:i*sz+j<l.length*sz:=by
  have:(i+1)*sz<=l.length*sz:=Nat.mul_le_mul_right _ (by omega)
  rw[Nat.add_mul] at this;omega
 exact⟨v,by rw[List.getElem?_take,if_pos hlt];simpa using hv,hr⟩
theorem Dz {x:AV} {v:Value} {K:(α:Type)->α->(α->List AV)->List α->Prop} (h:sA x M K) (hM:az S F ρ M w) (hv:RV S ρ v x):
  ∃(β:Type) (d:β) (enc:β->List AV) (l:List β),K β d enc l/\∀n,(enc (l.getD 0 d)).length=n->∃news,tD S w v enc l n news:=by
 unfold sA at h
 split at h
 ·exact⟨_,_,_,_,h,fun n hn=>tD.of_sl hM.sw hv.sl_inv hn⟩
 ·obtain⟨b,hb,_,_,_,rfl⟩:=hv.row_inv
  split at h
  ·rename_i ℓ _ _ t α d enc l hl
   refine⟨_,_,_,_,h,fun n hn=>?_⟩
   obtain⟨b',hb',hlen,hszs,hcase⟩:=hM.blk _ _ hl
   rw[hb] at hb';cases hb'
   rcases hcase with ⟨hnil,rfl,hcap⟩|⟨hnil,hcap,vs,hheap,hvsz,hcell,_⟩
   ·have:b.len=0:=by simpa using hlen
    exact⟨[],⟨none,b.cap,by simp[dZ.hdr,hnil,this], .inl ⟨rfl,rfl⟩⟩,by simp,by simp,by simp,by simp⟩
   ·by_cases hl0:l=[]
    ·subst hl0
     have:b.len=0:=by simpa using hlen
     exact⟨[],⟨some ⟨b.blk,0,none⟩,b.cap,by simp[dZ.hdr,hnil,this], .inr ⟨_,rfl,by simp⟩⟩,by simp,by simp,by simp,by simp⟩
    ·have hpos:0<l.length:=List.length_pos_iff.2 hl0
     have hs:b.sz=n:=by
      rw[<-hn,<-(hszs _ (List.mem_of_getElem? (ci (d:=d) hpos))).1]
     subst hs
     have hle:l.length*b.sz<=vs.size:=by rw[hvsz];exact Nat.mul_le_mul_right _ hcap
     obtain⟨h1,h2⟩:=kN hle (fun a ha=>(hszs a ha).1) hcell
     refine⟨vs.toList.take (l.length*b.sz),⟨some ⟨b.blk,0,none⟩,b.cap,by simp[dZ.hdr,hnil,hlen], .inr ⟨_,rfl,fun j u hj=>?_⟩⟩,h1,fun a ha=>(hszs a ha).1,fun a ha=>(hszs a ha).2,h2⟩
     rw[List.getElem?_take] at hj
     split at hj
     ·rw[Addr.add_mk];simp only[World.cell?,hheap];simpa using hj
     ·simp at hj
  ·rename_i ℓ _ _ α d enc l hl
   obtain⟨b',hb',hlen,hr⟩:=hM.blk _ _ hl
   rw[hb] at hb';cases hb'
   exact⟨_,_,_,_,h,fun n hn=>tD.of_sl hM.sw hr hn⟩
  ·exact h.elim
 ·rename_i b c
  rw[hv.val_inv]
  refine⟨_,_,_,_,h,fun n _=>⟨[],⟨b,c,rfl,?_⟩,by simp,by simp,by simp,by simp⟩⟩
  cases b with
  |none=>exact .inl ⟨rfl,rfl⟩
  |some ad=>exact .inr ⟨ad,rfl,by simp⟩
 ·exact h.elim
theorem tD.run {v:Value} {β:Type} {enc:β->List AV} {l:List β} {sz:Nat} {news:List Value} (h:tD S w v enc l sz news) (k:Nat):(Builtin.firstCells sz l.length v).run P {w with drawn:=k}= .ok news.toArray {w with drawn:=k}:=by
 obtain⟨base,cap,rfl,hb⟩:=h.form
 rcases hb with ⟨rfl,rfl⟩|⟨ad,rfl,hc⟩
 ·exact run_firstCells_none _ _ _ _ _
 ·exact run_firstCells_some _ _ _ _ _ _ _ h.len hc
theorem tD.lenOf {v:Value} {β:Type} {enc:β->List AV} {l:List β} {sz:Nat} {news:List Value} (h:tD S w v enc l sz news):(Builtin.lenOf v).run P w= .ok l.length w:=by
 obtain⟨base,cap,rfl,hb⟩:=h.form
 rfl
theorem sD (z:Array Value) (n:Nat):(Builtin.zeroCells z n).size=n*z.size:=by simp[Builtin.zeroCells]
theorem lY (hT:aW P tt=true) {t t' e:TypeId} {i:TI} (ht:P.underlying t=some (.slice e)) (ht':c7 tt t'=true) (hi:tt.find e=some i) {ty:TypeId}
  {base:Option Addr} {sLen sCap:Nat} {v:Value} {β:Type} {enc:β->List AV} {l:List β} {news olds:List Value} (hx:tD S w v enc l i.size news)
  (hold:∀k,(Builtin.firstCells i.size sLen (.slice base sLen sCap)).run P {w with drawn:=k}= .ok olds.toArray {w with drawn:=k})
  (hneed:sCap<sLen+l.length) (hbyte:(sLen+l.length)*i.bytes<=140737488355328) (hpos:0<i.bytes):
  ∃cap rest,sLen+l.length<=cap/\rest.size=(cap-(sLen+l.length))*i.size/\
   (Builtin.append_ #[t,t'] ty #[.slice base sLen sCap,v]).run P w= .ok (.slice (some ⟨w.heap.size,0,none⟩) (sLen+l.length) cap) (({w with drawn:=w.drawn+1}:World).alloc (.cells (olds.toArray++news.toArray++rest) e)):=by
 obtain⟨e',he'⟩:=cB hT ht'
 obtain⟨x,z,hx',hxs,hxb,hz,hzc,_,hzl⟩:=TOk.info hT hi
 have hzs:z.cells.size=i.size:=by rw[<-Array.length_toList,hzc,hzl]
 let q:Question:= .appendCap (sLen+l.length) sCap e
 let cap:=q.cut (w.tape w.drawn q)
 refine⟨cap,Builtin.zeroCells z.cells (cap-(sLen+l.length)),?_,by rw[sD,hzs],?_⟩
 ·show sLen+l.length<=(sLen+l.length)+_ % _
  omega
 have hsz:∀w,(Go.sizeOf e).run P w= .ok i.size w:=fun w=>TOk.size hT hi w
 have hfit:=growslice_fits (need:=sLen+l.length) (old:=sCap) (bytes:=i.bytes) hneed hbyte
 have hchoose:(choose q).run P w= .ok cap {w with drawn:=w.drawn+1}:=by
  simp[choose,Sem.run,q,Question.forced,cap]
 have hlen:=hx.lenOf (P:=P)
 have hnew:=hx.run (P:=P) (w.drawn+1)
 have hold':=hold (w.drawn+1)
 have hgt:¬(sLen+l.length<=sCap):=by omega
 have hmax:¬(((sLen+l.length:Nat):Int)>IntKind.i64.max/\(False\/i.bytes=0)):=fun hh=>hh.2.elim (fun h=>h) (fun h=>by omega)
 have h48:¬(Builtin.nextslicecap (sLen+l.length) sCap*i.bytes>2^48):=by
  have:(2:Nat)^48=281474976710656:=by decide
  omega
 simp only[Builtin.append_,Sem.run_bind,run_underlying ht,run_underlying he',Result.andThen_ok,hsz,Sem.run_pure,List.getElem?_toArray,List.getElem?_cons_zero,List.getElem?_cons_succ,Bool.false_eq_true,if_false,hlen,hgt,typeInfo,run_program,hx',hxb,Sem.run_ite]
 rw[if_neg (by simpa using hmax)]
 rw[if_neg h48]
 rw[hchoose]
 simp only[Result.andThen_ok,run_askRoom,hold',Bool.not_false,if_true,hnew,zeroValue,typeInfo,Sem.run_bind,run_program,hx',hz,Sem.run_pure,newRow,run_newObj]
 rfl
theorem Ay (hT:aW P tt=true) {t t' e:TypeId} {i:TI} (ht:P.underlying t=some (.slice e)) (ht':c7 tt t'=true) (hi:tt.find e=some i) {ty rt:TypeId}
  {g sLen sCap:Nat} {v:Value} {β:Type} {enc:β->List AV} {l:List β} {news:List Value} {cur:Array Value} (hx:tD S w v enc l i.size news)
  (hg:w.heap[g]? =some (.cells cur rt (0,0))) (hcur:cur.size=sCap*i.size) (hone:∀u∈news,u.oneCell'=true) (hneed:sLen+l.length<=sCap):
   (Builtin.append_ #[t,t'] ty #[.slice (some ⟨g,0,none⟩) sLen sCap,v]).run P w= .ok (.slice (some ⟨g,0,none⟩) (sLen+l.length) sCap)
    (w.setRow g (cur.toList.take (sLen*i.size)++news++cur.toList.drop (sLen*i.size+news.length)).toArray):=by
 obtain⟨e',he'⟩:=cB hT ht'
 have hsz:∀w,(Go.sizeOf e).run P w= .ok i.size w:=fun w=>TOk.size hT hi w
 have hlen:=hx.lenOf (P:=P)
 have hnew:(Builtin.firstCells i.size l.length v).run P w= .ok news.toArray w:=hx.run (P:=P) w.drawn
 have hfit:sLen*i.size+news.length<=cur.size:=by
  rw[hx.len,hcur,<-Nat.add_mul];exact Nat.mul_le_mul_right _ hneed
 have hst:=run_storeCells_at P g (sLen*i.size) rt news 0 cur w hg (by simpa using hfit) hone
 simp only[Nat.add_zero] at hst
 simp only[Builtin.append_,Sem.run_bind,run_underlying ht,run_underlying he',Result.andThen_ok,hsz,Sem.run_pure,List.getElem?_toArray,List.getElem?_cons_zero,List.getElem?_cons_succ,Bool.false_eq_true,if_false,hlen,hneed,if_true,Bool.not_false,hnew,Addr.add_mk,Nat.zero_add,hst]
theorem tZ (hT:aW P tt=true) {t t' e:TypeId} {i:TI} (ht:P.underlying t=some (.slice e)) (ht':c7 tt t'=true) (hi:tt.find e=some i) {ty rt:TypeId}
  {g o sLen sCap:Nat} {v:Value} {β:Type} {enc:β->List AV} {l:List β} {news:List Value} {cur:Array Value} (hx:tD S w v enc l i.size news)
  (hg:w.heap[g]? =some (.cells cur rt (0,0))) (hfit:o+sLen*i.size+news.length<=cur.size) (hone:∀u∈news,u.oneCell'=true) (hneed:sLen+l.length<=sCap):
   (Builtin.append_ #[t,t'] ty #[.slice (some ⟨g,o,none⟩) sLen sCap,v]).run P w= .ok (.slice (some ⟨g,o,none⟩) (sLen+l.length) sCap)
    (w.setRow g (cur.toList.take (o+sLen*i.size)++news++cur.toList.drop (o+sLen*i.size+news.length)).toArray):=by
 obtain⟨e',he'⟩:=cB hT ht'
 have hsz:∀w,(Go.sizeOf e).run P w= .ok i.size w:=fun w=>TOk.size hT hi w
 have hlen:=hx.lenOf (P:=P)
 have hnew:(Builtin.firstCells i.size l.length v).run P w= .ok news.toArray w:=hx.run (P:=P) w.drawn
 have hst:=run_storeCells_at P g (o+sLen*i.size) rt news 0 cur w hg (by simpa using hfit) hone
 simp only[Nat.add_zero] at hst
 simp only[Builtin.append_,Sem.run_bind,run_underlying ht,run_underlying he',Result.andThen_ok,hsz,Sem.run_pure,List.getElem?_toArray,List.getElem?_cons_zero,List.getElem?_cons_succ,Bool.false_eq_true,if_false,hlen,hneed,if_true,Bool.not_false,hnew,Addr.add_mk,hst]
theorem tD.allOne {v:Value} {β:Type} {enc:β->List AV} {l:List β} {sz:Nat} {news:List Value} (h:tD S w v enc l sz news) {α:Type} {enc':α->List AV} {l'':List α} (hm:l''.map enc'=l.map enc):
  ∀i a j u,l''[i]? =some a->(enc' a)[j]? =some u->∃v,news[i*sz+j]? =some v/\RP S v u:=by
 intro i a j u ha hu
 have hi:(l.map enc)[i]? =some (enc' a):=by rw[<-hm,List.getElem?_map,ha];rfl
 rw[List.getElem?_map] at hi
 obtain⟨y,hy,he⟩:=Option.map_eq_some_iff.1 hi
 exact h.vals i y j u hy (by rw[he];exact hu)
theorem gN {α:Type} {l l'':List α} {enc:α->List AV} {olds news:List Value} {sz:Nat} (ho:olds.length=l.length*sz) (hs:∀a∈l,(enc a).length=sz)
  (h1:∀i a j u,l[i]? =some a->(enc a)[j]? =some u->∃v,olds[i*sz+j]? =some v/\RP S v u)
  (h2:∀i a j u,l''[i]? =some a->(enc a)[j]? =some u->∃v,news[i*sz+j]? =some v/\RP S v u) (rest:List Value):
  ∀i a j u,(l++l'')[i]? =some a->(enc a)[j]? =some u->∃v,(olds++(news++rest))[i*sz+j]? =some v/\RP S v u:=by
 intro i a j u ha hu
 by_cases hi:i<l.length
 ·rw[List.getElem?_append_left hi] at ha
  have hj:j<sz:=by rw[<-hs a (List.mem_of_getElem? ha)];exact(List.getElem?_eq_some_iff.1 hu).1
  have hlt:i*sz+j<olds.length:=by
   have:(i+1)*sz<=l.length*sz:=Nat.mul_le_mul_right _ (by omega)
   rw[Nat.add_mul] at this;omega
  rw[List.getElem?_append_left hlt]
  exact h1 i a j u ha hu
 ·rw[List.getElem?_append_right (by omega)] at ha
  obtain⟨v,hv,hr⟩:=h2 _ a j u ha hu
  have hge:l.length*sz<=i*sz:=Nat.mul_le_mul_right _ (by omega)
  refine⟨v,?_,hr⟩
  rw[List.getElem?_append_right (by omega),ho,show i*sz+j-l.length*sz=(i-l.length)*sz+j from by rw[Nat.sub_mul];omega,
   List.getElem?_append_left (List.getElem?_eq_some_iff.1 hv).1]
  exact hv
theorem o6 {v:Value} {β:Type} {enc:β->List AV} {l:List β} {sz:Nat} {news:List Value} (h:tD S w v enc l sz news) (hsz:0<sz):∀u∈news,u.oneCell'=true:=by
 intro u hu
 obtain⟨k,hk⟩:=List.getElem?_of_mem hu
 have hlt:=(List.getElem?_eq_some_iff.1 hk).1
 rw[h.len] at hlt
 have h1:k / sz<l.length:=by rw[Nat.div_lt_iff_lt_mul hsz];exact hlt
 have h2:k % sz<sz:=Nat.mod_lt _ hsz
 have ha:l[k / sz]? =some l[k / sz]:=List.getElem?_eq_getElem h1
 have hl:=h.szs _ (List.getElem_mem h1)
 have hj:(enc l[k / sz])[k % sz]? =some (enc l[k / sz])[k % sz]:=List.getElem?_eq_getElem (by omega)
 obtain⟨x,hx,hr⟩:=h.vals _ _ _ _ ha hj
 have hkk:k / sz*sz+k % sz=k:=by rw[Nat.mul_comm];exact Nat.div_add_mod k sz
 rw[hkk,hk] at hx
 injection hx with hx
 subst hx
 exact sy (ρ:=fun _=>none) (jm.1 (h.one _ (List.getElem_mem h1)) _ (List.mem_of_getElem? hj)) (.p hr)
end
end
section
section
variable {S F:ae} {ρ:aw} {M:ah} {w:World} {P:Program} {tt:TT}
theorem xi {v:Value} {β:Type} {enc:β->List AV} {l:List β} {sz:Nat} {news:List Value} (h:tD S w v enc l sz news):∀u∈news,u.oneCell'=true:=by
 by_cases hsz:0<sz
 ·exact o6 h hsz
 ·have:sz=0:=by omega
  subst this
  have:=h.len
  simp at this
  subst this
  simp
theorem ot {α β:Type} {enc:α->List AV} {enc':β->List AV} {l:List α} {l':List β} (h:l.map enc=l'.map enc') {p:List AV->Prop} (hp:∀b∈l',p (enc' b)):∀a∈l,p (enc a):=by
 intro a ha
 have:enc a∈l.map enc:=List.mem_map_of_mem ha
 rw[h] at this
 obtain⟨b,hb,e⟩:=List.mem_map.1 this
 rw[<-e];exact hp b hb
theorem bX.draw_alloc (w:World) (n:Nat) (hn:w.drawn<=n) (vs:Array Value) (t:TypeId):bX w (({w with drawn:=n}:World).alloc (.cells vs t)):=
 (bX.drawn w n hn).trans (bX.alloc_cells _ _ _)
theorem lw (hT:aW P tt=true) {ts:List TypeId} {ty:TypeId} {dst:Option Tmp} {K:AV->ah->Prop} {us:List AV} {vs:List Value} (h:fk tt ts us dst M K) (hM:az S F ρ M w) (hv:ba S ρ vs us):
  b8 P S F ρ w (Builtin.append_ ts.toArray ty vs.toArray) K:=by
 unfold fk at h
 split at h
 ·rename_i d t t' s x
  obtain⟨vs0,ys,rfl,hs,hv⟩:=hv.cons_inv
  obtain⟨vx,ys,rfl,hx,hv⟩:=hv.cons_inv
  have:=hv.nil_inv;subst this
  split at h
  ·rename_i sz0 by0 e z0 ht ht' hd
   have hte:=TOk.slice hT ht
   split at h
   ·rename_i i hi
    split at h
    ·exact h.elim
    ·rename_i m hbm
     have hbpos:0<i.bytes:=by rw[hbm];omega
     have h':=Dz h hM hx
     clear h
     obtain⟨β,dd',enc',l',h,hsrc⟩:=h'
     split at h
     ·rename_i hsz
      have hsz:=Nat.eq_of_beq_eq_true hsz
      obtain⟨news,hnews⟩:=hsrc _ hsz
      split at h
      ·
       cases hs.nilsl_inv
       rw[bA] at h
       obtain⟨hb,hK⟩:=h
       by_cases hl:l'=[]
       ·subst hl
        let b:dZ:=⟨0,0,0,i.size,true⟩
        refine⟨.slice none 0 0,_,_,S,aw.set ρ d b,w,?_,hK,ae.le_refl _,aw.set_le _ (hM.fresh hd),hM.add hd b _ (fun _ _ _ _ _ _ hh=>by cases hh) ?_,?_,bX.refl _⟩
        ·obtain⟨e',he'⟩:=cB hT ht'
         have hlen:=hnews.lenOf (P:=P)
         have hnew:(Builtin.firstCells i.size ([]:List β).length vx).run P w= .ok news.toArray w:=hnews.run (P:=P) w.drawn
         have hsize:=TOk.size hT hi w
         simp only[List.length_nil] at hlen hnew
         simp[Builtin.append_,run_underlying hte,run_underlying he',hsize,hlen,hnew]
        ·exact⟨rfl,by simp, .inl ⟨rfl,rfl,rfl⟩⟩
        ·exact .row d 0 i.size b (aw.set_eq _ _ _) rfl rfl (by simp[b])
       ·have hpos:0<l'.length:=List.length_pos_iff.2 hl
        obtain⟨cap,rest,hcap,hrest,hrun⟩:=lY (P:=P) (ty:=ty) (base:=none) (sLen:=0) (sCap:=0) (olds:=[]) hT hte ht' hi hnews (fun k=>run_firstCells_none _ _ _ _ _) (by omega) (by rw[Nat.zero_add];exact hb) hbpos
        simp only[Nat.zero_add] at hcap hrest hrun
        let b:dZ:=⟨w.heap.size,l'.length,cap,i.size,false⟩
        have hM1:=hM.drawn (w.drawn+1)
        refine⟨_,_,_,S,aw.set ρ d b,_,hrun,hK,ae.le_refl _,aw.set_le _ (hM.fresh hd),hM1.alloc hd _ e b _ (fun _=>rfl) ?_, .row d l'.length i.size b (aw.set_eq _ _ _) rfl rfl (by simp[b]),bX.draw_alloc _ _ (Nat.le_succ _) _ _⟩
        refine⟨rfl,fun a ha=>⟨hnews.szs a ha,hnews.one a ha⟩, .inr ⟨rfl,hcap,_,bp _ _,?_,fun k a j u hk hu=>?_,ae.inW_size hM.sw,ae.inW_size hM.fw⟩⟩
        ·simp only[Array.size_append,List.size_toArray,List.length_nil,hnews.len,hrest]
         show 0+l'.length*i.size+(cap-l'.length)*i.size=cap*i.size
         rw[Nat.zero_add,<-Nat.add_mul]
         congr 1;omega
        ·obtain⟨v,hv,hr⟩:=hnews.vals k a j u hk hu
         refine⟨v,?_,hr⟩
         have hlt:=(List.getElem?_eq_some_iff.1 hv).1
         show(([]:List Value).toArray++news.toArray++rest)[k*i.size+j]? =some v
         rw[Array.getElem?_append_left (by simpa using hlt)]
         simpa using hv
      ·
       rename_i α dd enc l
       split at h
       ·rename_i hsz2
        have hsz2:=Nat.eq_of_beq_eq_true hsz2
        rw[bA,gM] at h
        obtain⟨hpos,hbyte,l'',hmap,hK⟩:=h
        obtain⟨base,rfl,hsl⟩:=hs.slc_inv.slc_form
        obtain⟨olds,hso⟩:=tD.of_sl (w:=w) hM.sw hsl hsz2
        have hll:l''.length=l'.length:=by have:=congrArg List.length hmap;simpa using this
        have hcell2:=hnews.allOne hmap
        have hszs':∀a∈l++l'',(enc a).length=i.size/\allOne (enc a)=true:=by
         intro a ha
         rcases List.mem_append.1 ha with ha|ha
         ·exact⟨hso.szs a ha,hso.one a ha⟩
         ·exact ot hmap (p:=fun x=>x.length=i.size/\allOne x=true) (fun y hy=>⟨hnews.szs y hy,hnews.one y hy⟩) a ha
        obtain⟨cap,rest,hcap,hrest,hrun⟩:=lY (P:=P) (ty:=ty) (base:=base) (sLen:=l.length) (sCap:=l.length) (olds:=olds) hT hte ht' hi hnews (fun k=>hso.run (P:=P) k) (by omega) hbyte hbpos
        let c:dZ:=⟨w.heap.size,l.length+l'.length,cap,i.size,false⟩
        have hM1:=hM.drawn (w.drawn+1)
        refine⟨_,_,_,S,aw.set ρ d c,_,hrun,hK,ae.le_refl _,aw.set_le _ (hM.fresh hd),hM1.alloc hd _ e c _ (fun _=>rfl) ?_, .row d (l.length+l'.length) i.size c (aw.set_eq _ _ _) rfl rfl (by simp[c]),bX.draw_alloc _ _ (Nat.le_succ _) _ _⟩
        refine⟨by simp[c,hll],hszs', .inr ⟨rfl,by simp[c,hll];omega,_,bp _ _,?_,fun k a j u hk hu=>?_,ae.inW_size hM.sw,ae.inW_size hM.fw⟩⟩
        ·simp only[Array.size_append,List.size_toArray,hso.len,hnews.len,hrest]
         show l.length*i.size+l'.length*i.size+(cap-(l.length+l'.length))*i.size=cap*i.size
         rw[<-Nat.add_mul,<-Nat.add_mul]
         congr 1
         omega
        ·obtain⟨v,hv,hr⟩:=gN (S:=S) hso.len hso.szs hso.vals hcell2 rest.toList k a j u hk hu
         refine⟨v,?_,hr⟩
         show(olds.toArray++news.toArray++rest)[k*i.size+j]? =some v
         rw[<-hv]
         have:olds.toArray++news.toArray++rest=(olds++(news++rest.toList)).toArray:=by apply Array.ext';simp
         rw[this];simp
       ·exact h.elim
      ·
       rename_i ℓ n sz
       split at h
       ·rename_i e' α dd enc l hl hsz'
        have hsz':=Nat.eq_of_beq_eq_true hsz'
        subst hsz'
        obtain⟨b,hb,rfl,hbsz,hz,rfl⟩:=hs.row_inv
        split at h
        ·rename_i hee hxx
         have hee:=Nat.eq_of_beq_eq_true hee
         subst hee
         rw[gM] at h
         obtain⟨hbyte,l'',hmap,hK⟩:=h
         obtain⟨b',hb',hlen,hszs,hcase⟩:=hM.blk _ _ hl
         rw[hb] at hb';cases hb'
         have hll:l''.length=l'.length:=by have:=congrArg List.length hmap;simpa using this
         have hM0:=hM.kill hl
         have hdℓ:d≠ℓ:=fun e=>by subst e;rw[hd] at hl;cases hl
         have hd0:(M.set ℓ .dead) d=none:=by rw[ah.set_ne _ _ hdℓ];exact hd
         have hszs':∀a∈l++l'',(enc a).length=i.size/\allOne (enc a)=true:=by
          intro a ha
          rcases List.mem_append.1 ha with ha|ha
          ·have:=hszs a ha;rw[hbsz] at this;exact this
          ·exact ot hmap (p:=fun x=>x.length=i.size/\allOne x=true) (fun y hy=>⟨hnews.szs y hy,hnews.one y hy⟩) a ha
         have hcell2:=hnews.allOne hmap
         by_cases hroom:b.len+l'.length<=b.cap
         ·rcases hcase with ⟨hnil,rfl,hcap0⟩|⟨hnil,hcap,cur,hheap,hvsz,hcell,hSb,hFb⟩
          ·
           have hl0:l'=[]:=List.eq_nil_of_length_eq_zero (by omega)
           subst hl0
           have hl0':l''=[]:=List.eq_nil_of_length_eq_zero (by simpa using hll)
           subst hl0'
           let c:dZ:=⟨0,0,0,i.size,true⟩
           have hbl:b.len=0:=by simpa using hlen
           refine⟨.slice none 0 0,_,_,S,aw.set ρ d c,w,?_,hK,ae.le_refl _,aw.set_le _ (hM.fresh hd),hM0.add hd0 c _ (fun _ _ _ _ _ _ hh=>by cases hh) ?_,?_,bX.refl _⟩
           ·obtain⟨e2,he2⟩:=cB hT ht'
            have hlen':=hnews.lenOf (P:=P)
            have hnew:(Builtin.firstCells i.size ([]:List β).length vx).run P w= .ok news.toArray w:=hnews.run (P:=P) w.drawn
            have hsize:=TOk.size hT hi w
            simp only[List.length_nil] at hlen' hnew
            simp[Builtin.append_,run_underlying hte,run_underlying he2,hsize,hlen',hnew,dZ.hdr,hnil,hbl,hcap0]
           ·exact⟨rfl,by simp, .inl ⟨rfl,rfl,rfl⟩⟩
           ·have:=RV.row (S:=S) (ρ:=aw.set ρ d c) d 0 i.size c (aw.set_eq _ _ _) rfl rfl (by simp[c])
            simpa[hbl,dZ.hdr,c] using this
          ·rw[hbsz] at hvsz hcell
           have hhdr:b.hdr= .slice (some ⟨b.blk,0,none⟩) b.len b.cap:=by simp[dZ.hdr,hnil]
           have hrun:=Ay (P:=P) (ty:=ty) (rt:=e') (g:=b.blk) (sLen:=b.len) (sCap:=b.cap) hT hte ht' hi hnews hheap hvsz (xi hnews) hroom
           let arr:=(cur.toList.take (b.len*i.size)++news++cur.toList.drop (b.len*i.size+news.length)).toArray
           let c:dZ:=⟨b.blk,b.len+l'.length,b.cap,i.size,false⟩
           have hMw:az S F ρ (M.set ℓ .dead) (w.setRow b.blk arr):=hM.upd (B':= .dead) hl hb (fun k hk=>by
            rcases hk with hk|hk
            ·exact setRow_other _ _ _ _ hk
            ·exact absurd hnil hk) (fun hh=>hh.elim) trivial
           have hlw:l.length*i.size<=cur.size:=by rw[hvsz];exact Nat.mul_le_mul_right _ hcap
           refine⟨_,_,_,S,aw.set ρ d c,_,by rw[hhdr];exact hrun,hK,ae.le_refl _,aw.set_le _ (hM.fresh hd),hMw.add hd0 c _ (fun y C k hC hk hL _=>?_) ?_, .row d (b.len+l'.length) i.size c (aw.set_eq _ _ _) rfl rfl (by simp[c]),bX.setRow hheap⟩
           ·by_cases e:y=ℓ
            ·subst e;rw[ah.set_eq] at hC;cases hC;exact hL.elim
            ·rw[ah.set_ne _ _ e] at hC
             exact hM.inj y ℓ C _ k b hC hl hk hb hL (by exact hnil) e
           ·obtain⟨h1,h2⟩:=kN hlw (fun a ha=>by rw[<-hbsz];exact(hszs a ha).1) hcell
            refine⟨by simp[c,hlen,hll],hszs', .inr ⟨rfl,by simp[c,hll];omega,arr,setRow_heap _ _ _ _ _ _ hheap,?_,fun k a j u hk hu=>?_,hSb,hFb⟩⟩
            ·have hfit:b.len*i.size+news.length<=cur.size:=by
              rw[hnews.len,hvsz,<-Nat.add_mul];exact Nat.mul_le_mul_right _ hroom
             simp only[arr,List.size_toArray,List.append_assoc]
             rw[eD (by simpa using hfit)]
             simpa using hvsz
            ·have:=gN (S:=S) h1 (fun a ha=>by rw[<-hbsz];exact(hszs a ha).1) h2 hcell2 (cur.toList.drop (b.len*i.size+news.length)) k a j u hk hu
             obtain⟨v,hv,hr⟩:=this
             refine⟨v,?_,hr⟩
             show arr[k*i.size+j]? =some v
             simp only[arr,List.getElem?_toArray,List.append_assoc,hlen]
             simp only[hlen] at hv
             exact hv
         ·
          have hfirst:∃olds:List Value,olds.length=l.length*i.size/\(∀k,(Builtin.firstCells i.size b.len b.hdr).run P {w with drawn:=k}= .ok olds.toArray {w with drawn:=k})/\
            ∀k a j u,l[k]? =some a->(enc a)[j]? =some u->∃v,olds[k*i.size+j]? =some v/\RP S v u:=by
           rcases hcase with ⟨hnil,rfl,hcap0⟩|⟨hnil,hcap,cur,hheap,hvsz,hcell,hSb,hFb⟩
           ·refine⟨[],by simp,fun k=>?_,by simp⟩
            have:b.hdr= .slice none b.len b.cap:=by simp[dZ.hdr,hnil]
            rw[this];exact run_firstCells_none _ _ _ _ _
           ·rw[hbsz] at hvsz hcell
            have hlw:l.length*i.size<=cur.size:=by rw[hvsz];exact Nat.mul_le_mul_right _ hcap
            obtain⟨h1,h2⟩:=kN hlw (fun a ha=>by rw[<-hbsz];exact(hszs a ha).1) hcell
            refine⟨cur.toList.take (l.length*i.size),h1,fun k=>?_,h2⟩
            have:b.hdr= .slice (some ⟨b.blk,0,none⟩) b.len b.cap:=by simp[dZ.hdr,hnil]
            rw[this]
            refine run_firstCells_some _ _ _ _ _ _ _ (by rw[h1,hlen]) (fun j v hj=>?_)
            rw[List.getElem?_take] at hj
            split at hj
            ·rw[Addr.add_mk];simp only[World.cell?,hheap];simpa using hj
            ·simp at hj
          obtain⟨olds,ho1,ho2,ho3⟩:=hfirst
          obtain⟨base,hbase⟩:∃base,b.hdr= .slice base b.len b.cap:=⟨_,rfl⟩
          rw[hbase] at ho2
          obtain⟨cap,rest,hcap,hrest,hrun⟩:=lY (P:=P) (ty:=ty) (base:=base) (sLen:=b.len) (sCap:=b.cap) (olds:=olds) hT hte ht' hi hnews ho2 (by omega) (by rw[hlen];exact hbyte) hbpos
          let c:dZ:=⟨w.heap.size,b.len+l'.length,cap,i.size,false⟩
          have hM1:=hM0.drawn (w.drawn+1)
          refine⟨_,_,_,S,aw.set ρ d c,_,by rw[hbase];exact hrun,hK,ae.le_refl _,aw.set_le _ (hM.fresh hd),hM1.alloc hd0 _ e' c _ (fun _=>rfl) ?_, .row d (b.len+l'.length) i.size c (aw.set_eq _ _ _) rfl rfl (by simp[c]),bX.draw_alloc _ _ (Nat.le_succ _) _ _⟩
          refine⟨by simp[c,hlen,hll],hszs', .inr ⟨rfl,by simp[c,hll];omega,_,bp _ _,?_,fun k a j u hk hu=>?_,ae.inW_size hM.sw,ae.inW_size hM.fw⟩⟩
          ·simp only[Array.size_append,List.size_toArray,ho1,hnews.len,hrest]
           show l.length*i.size+l'.length*i.size+(cap-(b.len+l'.length))*i.size=cap*i.size
           rw[<-Nat.add_mul,<-Nat.add_mul]
           congr 1
           omega
          ·obtain⟨v,hv,hr⟩:=gN (S:=S) ho1 (fun a ha=>by rw[<-hbsz];exact(hszs a ha).1) ho3 hcell2 rest.toList k a j u hk hu
           refine⟨v,?_,hr⟩
           show(olds.toArray++news.toArray++rest)[k*i.size+j]? =some v
           rw[<-hv]
           have:olds.toArray++news.toArray++rest=(olds++(news++rest.toList)).toArray:=by apply Array.ext';simp
           rw[this];simp
        ·exact h.elim
       ·exact h.elim
      ·exact h.elim
     ·exact h.elim
   ·exact h.elim
  ·exact h.elim
 ·exact h.elim
theorem JU (hT:aW P tt=true) {ts:List TypeId} {ty:TypeId} {dst:Option Tmp} {K:AV->ah->Prop} {ℓ lo n sz:Nat} {x:AV} {vs:List Value} (h:JT tt ts ℓ lo n sz x dst M K) (hM:az S F ρ M w) (hv:ba S ρ vs [.part ℓ lo n sz,x]):
  b8 P S F ρ w (Builtin.append_ ts.toArray ty vs.toArray) K:=by
 unfold JT at h
 split at h
 ·rename_i d t t'
  obtain⟨vs0,ys,rfl,hs,hv⟩:=hv.cons_inv
  obtain⟨vx,ys,rfl,hx,hv⟩:=hv.cons_inv
  have:=hv.nil_inv;subst this
  split at h
  ·rename_i sz0 by0 e z0 ht ht' hd
   have hte:=TOk.slice hT ht
   split at h
   ·rename_i i hi
    split at h
    ·exact h.elim
    ·rename_i m hbm
     have hbpos:0<i.bytes:=by rw[hbm];omega
     have h':=Dz h hM hx
     clear h
     obtain⟨β,dd',enc',l',h,hsrc⟩:=h'
     split at h
     ·rename_i hsz
      have hsz:=Nat.eq_of_beq_eq_true hsz
      obtain⟨news,hnews⟩:=hsrc _ hsz
      split at h
      ·rename_i e' α dd enc l hl hsz'
       have hsz':=Nat.eq_of_beq_eq_true hsz'
       subst hsz'
       split at h
       ·rename_i hee hxx
        have hee:=Nat.eq_of_beq_eq_true hee
        subst hee
        rw[bA,gM] at h
        obtain⟨⟨hn0,hln⟩,hbyte,l'',hmap,hK1,hK2⟩:=h
        obtain⟨b,a0,c,hb,hbsz,hlo,ha,hc,rfl⟩:=hs.part_inv
        obtain⟨hnil,rfl⟩:=ha hn0
        have hc:=hc hn0
        obtain⟨b',hb',hlen,hszs,hcase⟩:=hM.blk _ _ hl
        rw[hb] at hb';cases hb'
        have hll:l''.length=l'.length:=by have:=congrArg List.length hmap;simpa using this
        have hM0:=hM.kill hl
        have hdℓ:d≠ℓ:=fun e=>by subst e;rw[hd] at hl;cases hl
        have hd0:(M.set ℓ .dead) d=none:=by rw[ah.set_ne _ _ hdℓ];exact hd
        have hz1:∀a∈l,(enc a).length=i.size/\allOne (enc a)=true:=fun a ha=>by have:=hszs a ha;rw[hbsz] at this;exact this
        have hz2:∀a∈l'',(enc a).length=i.size/\allOne (enc a)=true:=ot hmap (p:=fun x=>x.length=i.size/\allOne x=true) (fun y hy=>⟨hnews.szs y hy,hnews.one y hy⟩)
        have hcell2:=hnews.allOne hmap
        rcases hcase with ⟨h2,_⟩|⟨_,hcap,cur,hheap,hvsz,hcell,hSb,hFb⟩
        ·rw[hnil] at h2;cases h2
        rw[hbsz] at hvsz hcell
        have hlw:l.length*i.size<=cur.size:=by rw[hvsz];exact Nat.mul_le_mul_right _ hcap
        obtain⟨h1,h2⟩:=kN hlw (fun a ha=>(hz1 a ha).1) hcell
        by_cases hroom:n+l'.length<=c
        ·have e0:lo*i.size+n*i.size=l.length*i.size:=by rw[<-Nat.add_mul,hln]
         have hfit:l.length*i.size+news.length<=cur.size:=by
          rw[hnews.len,hvsz,<-Nat.add_mul];exact Nat.mul_le_mul_right _ (by omega)
         have hrun:=tZ (P:=P) (ty:=ty) (rt:=e') (g:=b.blk) (o:=lo*i.size) (sLen:=n) (sCap:=c) hT hte ht' hi hnews hheap (by rw[e0];exact hfit) (xi hnews) hroom
         rw[e0] at hrun
         let arr:=(cur.toList.take (l.length*i.size)++news++cur.toList.drop (l.length*i.size+news.length)).toArray
         let q:dZ:=⟨b.blk,b.len+l'.length,b.cap,i.size,false⟩
         have hMw:az S F ρ (M.set ℓ .dead) (w.setRow b.blk arr):=hM.upd (B':= .dead) hl hb (fun k hk=>by
          rcases hk with hk|hk
          ·exact setRow_other _ _ _ _ hk
          ·exact absurd hnil hk) (fun hh=>hh.elim) trivial
         refine⟨_,_,_,S,aw.set ρ d q,_,by rw[hbsz];exact hrun,hK1,ae.le_refl _,aw.set_le _ (hM.fresh hd),hMw.add hd0 q _ (fun y C k hC hk hL _=>?_) ?_, .part d lo (n+l'.length) i.size q _ _ (aw.set_eq _ _ _) rfl (by show lo+(n+l'.length)<=b.len+l'.length;omega) (fun _=>⟨rfl,rfl⟩) (fun _=>hc),bX.setRow hheap⟩
         ·by_cases e:y=ℓ
          ·subst e;rw[ah.set_eq] at hC;cases hC;exact hL.elim
          ·rw[ah.set_ne _ _ e] at hC
           exact hM.inj y ℓ C _ k b hC hl hk hb hL (by exact hnil) e
         ·refine⟨by simp[q,hlen,hll],fun a ha=>?_, .inr ⟨rfl,by simp[q,hll];omega,arr,setRow_heap _ _ _ _ _ _ hheap,?_,fun k a j u hk hu=>?_,hSb,hFb⟩⟩
          ·rcases List.mem_append.1 ha with ha|ha
           ·exact hz1 a ha
           ·exact hz2 a ha
          ·simp only[arr,List.size_toArray,List.append_assoc]
           rw[eD (by simpa using hfit)]
           simpa using hvsz
          ·obtain⟨v,hv,hr⟩:=gN (S:=S) h1 (fun a ha=>(hz1 a ha).1) h2 hcell2 (cur.toList.drop (l.length*i.size+news.length)) k a j u hk hu
           refine⟨v,?_,hr⟩
           show arr[k*i.size+j]? =some v
           simp only[arr,List.getElem?_toArray,List.append_assoc]
           exact hv
        ·have hdl:(l.drop lo).length=n:=by rw[List.length_drop];omega
         let olds:=(cur.toList.take (l.length*i.size)).drop (lo*i.size)
         have ho1:olds.length=(l.drop lo).length*i.size:=by
          simp only[olds,List.length_drop,h1]
          rw[<-Nat.sub_mul]
         have ho3:∀k a j u,(l.drop lo)[k]? =some a->(enc a)[j]? =some u->∃v,olds[k*i.size+j]? =some v/\RP S v u:=by
          intro k a j u hk hu
          rw[List.getElem?_drop] at hk
          obtain⟨v,hv,hr⟩:=h2 _ a j u hk hu
          refine⟨v,?_,hr⟩
          simp only[olds]
          rw[List.getElem?_drop,<-hv]
          congr 1
          rw[Nat.add_mul];omega
         have ho2:∀k,(Builtin.firstCells i.size n (.slice (some ⟨b.blk,lo*i.size,none⟩) n c)).run P {w with drawn:=k}= .ok olds.toArray {w with drawn:=k}:=by
          intro k
          refine run_firstCells_some _ _ _ _ _ _ _ (by rw[ho1,hdl]) (fun j v hj=>?_)
          simp only[olds] at hj
          rw[List.getElem?_drop,List.getElem?_take] at hj
          split at hj
          ·rw[Addr.add_mk];simp only[World.cell?,hheap];simpa using hj
          ·simp at hj
         obtain⟨cap,rest,hcp,hrest,hrun⟩:=lY (P:=P) (ty:=ty) (base:=some ⟨b.blk,lo*i.size,none⟩) (sLen:=n) (sCap:=c) (olds:=olds) hT hte ht' hi hnews ho2 (by omega)
          (Nat.le_trans (Nat.mul_le_mul_right _ (by omega)) hbyte) hbpos
         let q:dZ:=⟨w.heap.size,n+l'.length,cap,i.size,false⟩
         have hM1:=hM0.drawn (w.drawn+1)
         refine⟨_,_,_,S,aw.set ρ d q,_,by rw[hbsz];exact hrun,hK2,ae.le_refl _,aw.set_le _ (hM.fresh hd),hM1.alloc hd0 _ e' q _ (fun _=>rfl) ?_, .part d 0 (n+l'.length) i.size q _ _ (aw.set_eq _ _ _) rfl (by show 0+(n+l'.length)<=n+l'.length;omega) (fun _=>⟨rfl,by rw[Nat.zero_mul]⟩) (fun _=>Nat.zero_add _),bX.draw_alloc _ _ (Nat.le_succ _) _ _⟩
         refine⟨by simp only[q,List.length_append,hdl,hll],fun a ha=>?_, .inr ⟨rfl,by simp only[q,List.length_append,hdl,hll];exact hcp,_,bp _ _,?_,fun k a j u hk hu=>?_,ae.inW_size hM.sw,ae.inW_size hM.fw⟩⟩
         ·rcases List.mem_append.1 ha with ha|ha
          ·exact hz1 a (List.mem_of_mem_drop ha)
          ·exact hz2 a ha
         ·simp only[Array.size_append,List.size_toArray,ho1,hdl,hnews.len,hrest]
          show n*i.size+l'.length*i.size+(cap-(n+l'.length))*i.size=cap*i.size
          rw[<-Nat.add_mul,<-Nat.add_mul]
          congr 1
          omega
         ·obtain⟨v,hv,hr⟩:=gN (S:=S) ho1 (fun a ha=>(hz1 a (List.mem_of_mem_drop ha)).1) ho3 hcell2 rest.toList k a j u hk hu
          refine⟨v,?_,hr⟩
          show(olds.toArray++news.toArray++rest)[k*i.size+j]? =some v
          rw[<-hv]
          have:olds.toArray++news.toArray++rest=(olds++(news++rest.toList)).toArray:=by apply Array.ext';simp
          rw[this];simp
       ·exact h.elim
      ·exact h.elim
     ·exact h.elim
   ·exact h.elim
  ·exact h.elim
 ·exact h.elim
theorem JV (hT:aW P tt=true) {A:Prop} {ts:List TypeId} {ty:TypeId} {dst:Option Tmp} {K:AV->ah->Prop} {us:List AV} {vs:List Value} (h:JW A tt ts us dst M K) (hM:az S F ρ M w) (hv:ba S ρ vs us)
  (hA:A->b8 P S F ρ w (Builtin.append_ ts.toArray ty vs.toArray) K):b8 P S F ρ w (Builtin.append_ ts.toArray ty vs.toArray) K:=by
 unfold JW at h
 split at h
 ·exact JU hT h hM hv
 ·exact hA h
end
end
section
section
variable {S F:ae} {ρ:aw} {M:ah} {w:World} {P:Program} {tt:TT}
theorem yx (hT:aW P tt=true) {t:TypeId} {dst:Option Tmp} {K:AV->ah->Prop} {us:List AV} {v:Value} (h:o3 tt t us dst M K) (hM:az S F ρ M w) (hv:ba S ρ [v] us):b8 P S F ρ w (Instr.range t v) K:=by
 unfold o3 at h
 split at h
 ·rename_i d s
  obtain⟨y,ys,e,hs,_⟩:=hv.cons_inv
  injection e with e _
  subst e
  cases hs.str_inv
  split at h
  ·rename_i sz by_ z ht hd
   let b:dZ:=⟨w.heap.size,0,0,0,false⟩
   refine⟨.pointer (some ⟨w.heap.size,0,none⟩),_,_,S,aw.set ρ d b,w.alloc (.stringIter s 0),?_,h,ae.le_refl _,aw.set_le _ (hM.fresh hd),hM.allocO hd _ b _ (fun _=>rfl) ?_, .ptr d 0 b (aw.set_eq _ _ _),bX.alloc_iter _ _ _⟩
   ·simp only[Instr.range,Sem.run_bind,run_underlying (TOk.string hT ht),Result.andThen_ok,Sem.run_pure,run_newObj]
    rfl
   ·exact⟨bp _ _,ae.inW_size hM.sw,ae.inW_size hM.fw⟩
  ·exact h.elim
 ·exact h.elim
theorem Az {str:Bool} {K:AV->ah->Prop} {us:List AV} {v:Value} {ty:TypeId} (h:tX str us M K) (hM:az S F ρ M w) (hv:ba S ρ [v] us):b8 P S F ρ w (Instr.next v str ty) K:=by
 unfold tX at h
 split at h
 ·rename_i ℓ
  obtain⟨y,ys,e,hs,_⟩:=hv.cons_inv
  injection e with e _
  subst e
  obtain⟨b,hb,rfl⟩:=hs.ptr_inv
  split at h
  ·rename_i s pos hl
   obtain⟨b',hb',hr⟩:=hM.blk _ _ hl
   rw[hb] at hb';cases hb'
   obtain⟨hheap,hS,hF⟩:=hr
   have hget:(getObj b.blk).run P w= .ok (.stringIter s pos) w:=by simp[getObj,Sem.run,hheap]
   rw[rc] at h
   by_cases hp:pos<s.size
   ·have hlt:=cj hheap
    refine⟨_,_,_,S,ρ,{w with heap:=w.heap.setIfInBounds b.blk (.stringIter s (pos+(Utf8.decode s pos).2))},?_,h.1 hp,ae.le_refl _,aw.le_refl _,hM.upd hl hb (fun k hk=>?_) (fun _=>trivial) ?_,RV.tup_mk (vs:=[.bool true,goInt pos, .int .i32 ((Utf8.decode s pos).1:Int)]) (.cons (.p (.bool _)) (.cons (.p (.int _ _)) (.cons (.p (.int _ _)) (ba.nil _ _)))),?_⟩
    ·simp only[Instr.next,Sem.run_bind,hget,Result.andThen_ok,hp,if_true]
     have hset:(setObj b.blk (.stringIter s (pos+(Utf8.decode s pos).2))).run P w= .ok () {w with heap:=w.heap.setIfInBounds b.blk (.stringIter s (pos+(Utf8.decode s pos).2))}:=by
      simp[setObj,Sem.run,hheap]
     rw[hset]
     rfl
    ·have hne:k≠b.blk:=by
      rcases hk with hk|hk
      ·exact hk
      ·exact absurd trivial hk
     show(w.heap.setIfInBounds b.blk _)[k]? =_
     rw[Array.getElem?_setIfInBounds_ne (fun e=>hne e.symm)]
    ·refine⟨?_,hS,hF⟩
     show(w.heap.setIfInBounds b.blk _)[b.blk]? =_
     rw[Array.getElem?_setIfInBounds_self_of_lt hlt]
    ·refine⟨rfl,rfl,rfl,Nat.le_refl _,by simp,fun a _=>?_⟩
     unfold World.frozen?
     by_cases e:a.block=b.blk
     ·have:(w.heap.setIfInBounds b.blk (.stringIter s (pos+(Utf8.decode s pos).2)))[b.blk]? =some (.stringIter s (pos+(Utf8.decode s pos).2)):=Array.getElem?_setIfInBounds_self_of_lt hlt
      simp only[e,this,hheap]
     ·have:(w.heap.setIfInBounds b.blk (.stringIter s (pos+(Utf8.decode s pos).2)))[a.block]? =w.heap[a.block]?:=Array.getElem?_setIfInBounds_ne (fun h=>e h.symm)
      simp only[this]
   ·refine⟨_,_,M,S,ρ,w,?_,h.2 hp,ae.le_refl _,aw.le_refl _,hM,RV.tup_mk (vs:=[.bool false]) (.cons (.p (.bool _)) (ba.nil _ _)),bX.refl _⟩
    simp only[Instr.next,Sem.run_bind,hget,Result.andThen_ok,hp,if_false,Sem.run_pure]
  ·exact h.elim
 ·exact h.elim
theorem t3 (hT:aW P tt=true) {ts:List TypeId} {ty:TypeId} {dst:Option Tmp} {K:AV->ah->Prop} {us:List AV} {vs:List Value} (h:ka tt ts us dst M K) (hM:az S F ρ M w) (hv:ba S ρ vs us):
  b8 P S F ρ w (Builtin.append_ ts.toArray ty vs.toArray) K:=by
 unfold ka at h
 split at h
 ·rename_i d t t' n
  obtain⟨v0,vs1,rfl,h0,hv1⟩:=hv.cons_inv
  obtain⟨v1,vs2,rfl,h1,hv2⟩:=hv1.cons_inv
  cases hv2.nil_inv
  cases h0.nilsl_inv
  cases h1.int_inv
  split at h
  ·rename_i sz by_ e z a1 a2 k a3 ht ht' hd
   have hte:=TOk.slice hT ht
   have hti:=TOk.int hT ht'
   split at h
   ·rename_i i hi
    obtain⟨x,z,hx,hxs,hxb,hz,hzc,_,hzl⟩:=TOk.info hT hi
    have hzs:z.cells.size=i.size:=by rw[<-Array.length_toList,hzc,hzl]
    split at h
    ·rename_i m hp hbm
     have hbpos:0<i.bytes:=by rw[hbm];omega
     rw[jl] at h
     obtain⟨⟨h0,_,h2⟩,α,dd,enc,zz,henc,hK⟩:=h
     have hc47:n<=140737488355328:=by
      have:n*1<=n*(i.bytes:Int):=Int.mul_le_mul_of_nonneg_left (by omega) (by omega)
      omega
     have wn:IntKind.i64.wrap n=n:=j7 (by omega)
     have hsz:∀w,(Go.sizeOf e).run P w= .ok i.size w:=fun w=>TOk.size hT hi w
     have n0:¬n<0:=by omega
     have n48:¬(n*(x.bytes:Int)>2^48):=by
      have:(2:Int)^48=281474976710656:=by decide
      rw[hxb];omega
     have hones:∀(k j:Nat) (u:AV) (arr:Array Value),k<n.toNat->(i.zero.map cP)[j]? =some u->(∀q,q<n.toNat*i.size->arr[q]? =some (z.cells[q % z.cells.size]!))->∃v,arr[k*i.size+j]? =some v/\RP S v u:=by
      intro k j u arr hk hu harr
      obtain⟨v,hv,hr⟩:=kb (S:=S) hu
      have hj:j<i.size:=by rw[<-hzl];exact(List.getElem?_eq_some_iff.1 hv).1
      have hlt:k*i.size+j<n.toNat*i.size:=by
       have:(k+1)*i.size<=n.toNat*i.size:=Nat.mul_le_mul_right _ (by omega)
       rw[Nat.add_mul] at this;omega
      refine⟨v,?_,hr⟩
      rw[harr _ hlt,hzs,Nat.mul_comm k i.size,Nat.mul_add_mod,Nat.mod_eq_of_lt hj]
      have:z.cells[j]? =some v:=by
       rw[<-hzc] at hv
       simpa using hv
      rw[getElem!_def,this]
     by_cases hn:n.toNat=0
     ·have hn0:n=0:=by omega
      subst hn0
      let b:dZ:=⟨0,0,0,i.size,true⟩
      refine⟨.slice none 0 0,_,_,S,aw.set ρ d b,w,?_,hK,ae.le_refl _,aw.set_le _ (hM.fresh hd),hM.add hd b _ (fun _ _ _ _ _ _ hh=>by cases hh) ?_,?_,bX.refl _⟩
      ·simp[Builtin.append_,run_underlying hte,run_underlying hti,hsz,asInt,asIntOf,typeInfo,hx,wn]
      ·exact⟨rfl,by simp, .inl ⟨rfl,rfl,rfl⟩⟩
      ·exact .row d 0 i.size b (aw.set_eq _ _ _) rfl rfl (by simp[b])
     ·let q:Question:= .appendCap (0+n.toNat) 0 e
      let cap:=q.cut (w.tape w.drawn q)
      have hcap:n.toNat<=cap:=by
       show n.toNat<=(0+n.toNat)+_ % _
       omega
      have hchoose:(choose q).run P w= .ok cap {w with drawn:=w.drawn+1}:=by
       simp[choose,Sem.run,q,Question.forced,cap]
      let news:Array Value:=if n.toNat*i.size=0 then#[] else Builtin.zeroCells z.cells n.toNat
      have hnews:news.size=n.toNat*i.size:=by
       simp only[news]
       split
       ·rename_i h;simp[h]
       ·rw[sD,hzs]
      let rest:=Builtin.zeroCells z.cells (cap-(0+n.toNat))
      let b:dZ:=⟨w.heap.size,n.toNat,cap,i.size,false⟩
      have hM1:=hM.drawn (w.drawn+1)
      have h48:¬(Builtin.nextslicecap (0+n.toNat) 0*x.bytes>2^48):=by
       have e1:Builtin.nextslicecap (0+n.toNat) 0=n.toNat:=by
        unfold Builtin.nextslicecap
        rw[if_pos (by omega)];omega
       have:(2:Nat)^48=281474976710656:=by decide
       rw[e1,hxb]
       have h3:((n.toNat*i.bytes:Nat):Int)=n*i.bytes:=by rw[Int.natCast_mul];congr 1;omega
       omega
      refine⟨.slice (some ⟨w.heap.size,0,none⟩) n.toNat cap,_,_,S,aw.set ρ d b,({w with drawn:=w.drawn+1}:World).alloc (.cells (#[]++news++rest) e),?_,hK,ae.le_refl _,aw.set_le _ (hM.fresh hd),hM1.alloc hd _ e b _ (fun _=>rfl) ?_, .row d n.toNat i.size b (aw.set_eq _ _ _) rfl rfl (by simp[b]),bX.draw_alloc _ _ (Nat.le_succ _) _ _⟩
      ·have hgt:¬(0+n.toNat<=0):=by omega
       have hmax:¬(((0+n.toNat:Nat):Int)>IntKind.i64.max/\(True\/x.bytes=0)):=fun hh=>by
        have k':IntKind.i64.max=9223372036854775807:=by decide
        have:=hh.1
        omega
       have hfc:∀w:World,(Builtin.firstCells i.size 0 (.slice none 0 0)).run P w= .ok #[] w:=fun w=>rfl
       have hzv:∀w:World,(zeroValue e).run P w= .ok z w:=fun w=>by simp[zeroValue,typeInfo,hx,hz]
       simp only[Builtin.append_,Sem.run_bind,run_underlying hte,run_underlying hti,Result.andThen_ok,hsz,Sem.run_pure,List.getElem?_toArray,List.getElem?_cons_zero,List.getElem?_cons_succ,if_true,asInt,asIntOf,wn,n0,if_false,typeInfo,run_program,hx,n48,hgt,Sem.run_ite]
       rw[if_neg (by simpa using hmax)]
       rw[if_neg h48]
       rw[hchoose]
       simp only[Result.andThen_ok,run_askRoom,hfc,Bool.not_true,Bool.false_eq_true,if_false,Sem.run_ite,Sem.run_bind,hzv,Sem.run_pure]
       by_cases hc:n.toNat*i.size=0
       ·simp only[hc,if_true,Result.andThen_ok,newRow,Sem.run_bind,run_newObj,Sem.run_pure,news,rest,Nat.zero_add]
        rfl
       ·simp only[hc,if_false,Result.andThen_ok,newRow,Sem.run_bind,run_newObj,Sem.run_pure,news,rest,Nat.zero_add]
        rfl
      ·refine⟨by simp[b],fun a ha=>?_, .inr ⟨rfl,by simp[b];omega,_,bp _ _,?_,fun k a j u hk hu=>?_,ae.inW_size hM.sw,ae.inW_size hM.fw⟩⟩
       ·rw[List.eq_of_mem_replicate ha,henc];exact⟨by simpa[b] using hzl,(eQ (S:=S) (ρ:=ρ) hp (dN _)).2⟩
       ·simp only[Array.size_append,hnews,rest,sD,hzs]
        show 0+n.toNat*i.size+(cap-(0+n.toNat))*i.size=cap*i.size
        rw[Nat.zero_add,Nat.zero_add,<-Nat.add_mul]
        congr 1;omega
       ·have hk':k<n.toNat:=by have:=(List.getElem?_eq_some_iff.1 hk).1;simpa using this
        have ha:a=zz:=List.eq_of_mem_replicate (List.mem_of_getElem? hk)
        subst ha
        rw[henc] at hu
        refine hones k j u _ hk' hu fun q hq=>?_
        rw[Array.getElem?_append_left (by simp[hnews];exact hq),Array.getElem?_append_right (by simp)]
        simp only[List.size_toArray,List.length_nil,Nat.sub_zero,news]
        rw[if_neg (by omega)]
        simp[Builtin.zeroCells,hzs,hq]
    ·exact h.elim
   ·exact h.elim
  ·exact h.elim
 ·exact h.elim
theorem t4 (hT:aW P tt=true) {ts:List TypeId} {ty:TypeId} {dst:Option Tmp} {K:AV->ah->Prop} {us:List AV} {vs:List Value} (h:jK tt ts us dst M K) (hM:az S F ρ M w) (hv:ba S ρ vs us):
  b8 P S F ρ w (Builtin.append_ ts.toArray ty vs.toArray) K:=by
 unfold jK at h
 split at h
 ·exact t3 hT h hM hv
 ·exact lw hT h hM hv
theorem wh (hT:aW P tt=true) {t:TypeId} {ℓ n sz:Nat} {b:Int} {k:IntKind} {dst:Option Tmp} {K:AV->ah->Prop} {v:Value} (h:sC tt t ℓ n sz b dst M K) (hM:az S F ρ M w) (hv:RV S ρ v (.row ℓ n sz)):
  b8 P S F ρ w (Instr.sliceAt t v none (some (.int k b)) none) K:=by
 unfold sC at h
 split at h
 ·rename_i d sz0 by0 e z0 ht
  have hte:=TOk.slice hT ht
  split at h
  ·rename_i i rt α dd enc l hi hl hd
   rw[bA] at h
   obtain⟨⟨h0,h1⟩,hK⟩:=h
   have hsz:=TOk.size hT hi w
   obtain⟨lb,hb,rfl,rfl,hz,rfl⟩:=hv.row_inv
   obtain⟨b',hb',hlen,hszs,hcase⟩:=hM.blk _ _ hl
   rw[hb] at hb';cases hb'
   have hM0:=hM.kill hl
   have hdℓ:d≠ℓ:=fun e=>by subst e;rw[hd] at hl;cases hl
   have hd0:(M.set ℓ .dead) d=none:=by rw[ah.set_ne _ _ hdℓ];exact hd
   let c:dZ:=⟨lb.blk,b.toNat,lb.cap,lb.sz,lb.nil⟩
   have hcap:lb.len<=lb.cap:=by
    rcases hcase with ⟨_,rfl,h2⟩|⟨_,h2,_⟩
    ·simp at hlen;omega
    ·omega
   refine⟨c.hdr,_,_,S,aw.set ρ d c,w,?_,hK,ae.le_refl _,aw.set_le _ (hM.fresh hd),hM0.add hd0 c _ (fun y C q hC hk hL hc=>?_) ?_, .row d b.toNat lb.sz c (aw.set_eq _ _ _) rfl rfl (fun hn=>?_),bX.refl _⟩
   ·have hbc:b<=(lb.cap:Int):=by omega
    simp only[Instr.sliceAt,Instr.slice,Sem.run_bind,run_underlying hte,Result.andThen_ok,dZ.hdr,Instr.sliceBounds,Sem.run_pure,Instr.sliceBound,asIntOf,h0,hbc,and_self,if_true,hsz]
    cases hnn:lb.nil
    ·simp[c,Go.Proofs.YtblcpnmnibcbbaaGreatDoor.Addr.add_zero,hnn]
    ·simp[c,hnn]
   ·by_cases e:y=ℓ
    ·subst e;rw[ah.set_eq] at hC;cases hC;exact hL.elim
    ·rw[ah.set_ne _ _ e] at hC
     exact hM.inj y ℓ C _ q lb hC hl hk hb hL hc e
   ·refine⟨by simp[c];omega,fun a ha=>hszs a (List.mem_of_mem_take ha),?_⟩
    rcases hcase with ⟨h2,rfl,h3⟩|⟨h2,h3,vs,h4,h5,h6,h7,h8⟩
    ·exact .inl ⟨h2,by simp,h3⟩
    ·refine .inr ⟨h2,by show(l.take b.toNat).length<=lb.cap;simp;omega,vs,h4,h5,fun i a j u hi hu=>?_,h7,h8⟩
     rw[List.getElem?_take] at hi
     split at hi
     ·exact h6 i a j u hi hu
     ·cases hi
   ·have:=hz hn
    show b.toNat=0
    omega
  ·exact h.elim
 ·exact h.elim
theorem t5 {α:Type} {l:List α} {lo lo' k:Nat} (h1:lo+k<=l.length) (h2:lo'+k<=l.length):(we l lo lo' k).length=l.length:=by
 unfold we
 simp only[List.length_append,List.length_take,List.length_drop]
 omega
theorem AA {α:Type} {l:List α} {lo lo' k:Nat} {a:α} (h:a∈we l lo lo' k):a∈l:=by
 unfold we at h
 rcases List.mem_append.1 h with h|h
 ·exact List.mem_of_mem_take h
 ·rcases List.mem_append.1 h with h|h
  ·exact List.mem_of_mem_drop (List.mem_of_mem_take h)
  ·exact List.mem_of_mem_drop h
theorem AB {α:Type} {l:List α} {lo lo' k:Nat} (h1:lo+k<=l.length) (h2:lo'+k<=l.length) (i:Nat):(we l lo lo' k)[i]? =if lo<=i/\i<lo+k then l[lo'+(i-lo)]? else l[i]?:=by
 unfold we
 by_cases hi:i<lo
 ·rw[List.getElem?_append_left (by simp only[List.length_take];omega),List.getElem?_take,if_pos hi,if_neg (by omega)]
 ·rw[List.getElem?_append_right (by simp only[List.length_take];omega)]
  have e:(l.take lo).length=lo:=by simp only[List.length_take];omega
  rw[e]
  by_cases hk:i<lo+k
  ·rw[List.getElem?_append_left (by simp only[List.length_take,List.length_drop];omega),List.getElem?_take,if_pos (by omega),List.getElem?_drop,if_pos ⟨by omega,hk⟩]
  ·rw[List.getElem?_append_right (by simp only[List.length_take,List.length_drop];omega)]
   have e2:((l.drop lo').take k).length=k:=by simp only[List.length_take,List.length_drop];omega
   rw[e2,List.getElem?_drop,if_neg (by omega)]
   congr 1
   omega
theorem yy (hT:aW P tt=true) {t t' ty:TypeId} {ℓ lo n sz ℓ' lo' m sz':Nat} {K:AV->ah->Prop} {v v':Value} (h:wf tt t ℓ lo n sz ℓ' lo' m sz' M K) (hM:az S F ρ M w) (hv:RV S ρ v (.part ℓ lo n sz)) (hv':RV S ρ v' (.part ℓ' lo' m sz')):
  b8 P S F ρ w (Builtin.copy_ #[t,t'] ty #[v,v']) K:=by
 unfold wf at h
 split at h
 ·rename_i e1 e2
  have e1:=Nat.eq_of_beq_eq_true e1
  have e2:=Nat.eq_of_beq_eq_true e2
  subst e1
  subst e2
  split at h
  ·rename_i s0 b0 e z0 rt α d enc l ht hl
   have hte:=TOk.slice hT ht
   split at h
   ·rename_i i hi
    split at h
    ·rename_i hsz
     have hsz:=Nat.eq_of_beq_eq_true hsz
     rw[bA] at h
     obtain⟨⟨hn0,hm0⟩,hK⟩:=h
     obtain⟨b,a,c,hb,hbs,hlo,ha,_,rfl⟩:=hv.part_inv
     obtain⟨b',a',c',hb',hbs',hlo',ha',_,rfl⟩:=hv'.part_inv
     rw[hb] at hb';cases hb'
     obtain⟨hnil,rfl⟩:=ha hn0
     obtain⟨_,rfl⟩:=ha' hm0
     obtain⟨b',hb',hlen,hszs,hcase⟩:=hM.blk _ _ hl
     rw[hb] at hb';cases hb'
     have hsizeOf:=TOk.size hT hi w
     rcases hcase with ⟨h2,_⟩|⟨_,hcap,cur,hheap,hvsz,hcell,hSb,hFb⟩
     ·rw[hnil] at h2;cases h2
     obtain⟨k,hk⟩:∃k,k=Nat.min m n:=⟨_,rfl⟩
     rw[<-hk] at hK
     have hkm:k<=m:=by rw[hk];exact Nat.min_le_left _ _
     have hkn:k<=n:=by rw[hk];exact Nat.min_le_right _ _
     have q1:lo+k<=l.length:=by omega
     have q2:lo'+k<=l.length:=by omega
     have hcs:l.length*b.sz<=cur.size:=by rw[hvsz];exact Nat.mul_le_mul_right _ hcap
     have hdl:((cur.toList.drop (lo'*b.sz)).take (k*b.sz)).length=k*b.sz:=by
      have:(lo'+k)*b.sz<=l.length*b.sz:=Nat.mul_le_mul_right _ q2
      rw[Nat.add_mul] at this
      simp only[List.length_take,List.length_drop,Array.length_toList]
      omega
     obtain⟨news,hnews⟩:∃news,news=(cur.toList.drop (lo'*b.sz)).take (k*b.sz):=⟨_,rfl⟩
     rw[<-hnews] at hdl
     have hget:∀j,j<k*b.sz->news[j]? =cur[lo'*b.sz+j]?:=fun j hj=>by
      rw[hnews,List.getElem?_take,if_pos hj,List.getElem?_drop,Array.getElem?_toList]
     have hfc:(Builtin.firstCells i.size k (.slice (some ⟨b.blk,lo'*b.sz,none⟩) m c')).run P w= .ok news.toArray w:=by
      refine run_firstCells_some _ _ _ _ _ _ _ (by rw[hdl,hsz,hbs]) fun j v hj=>?_
      have hjl:=(List.getElem?_eq_some_iff.1 hj).1
      rw[hget j (by omega)] at hj
      rw[Addr.add_mk]
      simp only[World.cell?,hheap]
      exact hj
     have hone:∀u∈news,u.oneCell'=true:=by
      intro u hu
      obtain⟨j,hj⟩:=List.getElem?_of_mem hu
      have hjl:=(List.getElem?_eq_some_iff.1 hj).1
      rw[hdl] at hjl
      have hpos:0<b.sz:=by
       rcases Nat.eq_zero_or_pos b.sz with h0|h0
       ·rw[h0,Nat.mul_zero] at hjl;omega
       ·exact h0
      have h1:j / b.sz<k:=by rw[Nat.div_lt_iff_lt_mul hpos];exact hjl
      have h2:j % b.sz<b.sz:=Nat.mod_lt _ hpos
      obtain⟨x,hx⟩:∃x,l[lo'+j / b.sz]? =some x:=⟨l[lo'+j / b.sz]'(by omega),List.getElem?_eq_getElem (by omega)⟩
      obtain⟨g1,g2⟩:=hszs x (List.mem_of_getElem? hx)
      obtain⟨y,hy⟩:∃y,(enc x)[j % b.sz]? =some y:=⟨(enc x)[j % b.sz]'(by omega),List.getElem?_eq_getElem (by omega)⟩
      obtain⟨v,hv1,hv2⟩:=hcell _ _ _ _ hx hy
      have e3:(lo'+j / b.sz)*b.sz+j % b.sz=lo'*b.sz+j:=by
       rw[Nat.add_mul,Nat.add_assoc]
       congr 1
       rw[Nat.mul_comm]
       exact Nat.div_add_mod _ _
      rw[e3] at hv1
      rw[hget j hjl] at hj
      have hcu:cur[lo'*b.sz+j]? =some v:=hv1
      rw[hj] at hcu
      cases hcu
      exact sy (ρ:=fun _=>none) (jm.1 g2 _ (List.mem_of_getElem? hy)) (.p hv2)
     have hst:=run_storeCells_at P b.blk (lo*b.sz) rt news 0 cur w hheap (by
      rw[hdl]
      have:(lo+k)*b.sz<=l.length*b.sz:=Nat.mul_le_mul_right _ q1
      rw[Nat.add_mul] at this
      omega) hone
     refine⟨.int .i64 (k:Int),_,_,S,ρ,_,?_,hK,ae.le_refl _,aw.le_refl _,hM.upd hl hb (w':=w.setRow b.blk (cur.toList.take (lo*b.sz+0)++news++cur.toList.drop (lo*b.sz+0+news.length)).toArray) (fun q hq=>?_) (fun hh=>hh) ?_, .p (.int _ _),bX.setRow hheap⟩
     ·simp only[Builtin.copy_,Sem.run_bind,List.getElem?_toArray,List.getElem?_cons_zero,List.getElem?_cons_succ,run_underlying hte,Result.andThen_ok,Sem.run_pure,Builtin.lenOf,hsizeOf,<-hk,hfc,hst]
      rfl
     ·rcases hq with hq|hq
      ·exact setRow_other _ _ _ _ hq
      ·exact absurd hnil hq
     ·refine⟨by rw[t5 q1 q2];exact hlen,fun a ha=>hszs a (AA ha), .inr ⟨hnil,by rw[t5 q1 q2];exact hcap,_,setRow_heap _ _ _ _ _ _ hheap,?_,fun q a j u hq hu=>?_,hSb,hFb⟩⟩
      ·have:(lo+k)*b.sz<=l.length*b.sz:=Nat.mul_le_mul_right _ q1
       rw[Nat.add_mul] at this
       simp only[List.size_toArray,List.length_append,List.length_take,List.length_drop,Array.length_toList]
       omega
      ·rw[AB q1 q2] at hq
       have hj:j<b.sz:=by
        have hjl:=(List.getElem?_eq_some_iff.1 hu).1
        have:a∈l:=by
         split at hq
         ·exact List.mem_of_getElem? hq
         ·exact List.mem_of_getElem? hq
        have:=(hszs a this).1
        omega
       simp only[Nat.add_zero,List.getElem?_toArray]
       have hT1:(cur.toList.take (lo*b.sz)).length=lo*b.sz:=by
        have:lo*b.sz<=l.length*b.sz:=Nat.mul_le_mul_right _ (by omega)
        simp only[List.length_take,Array.length_toList]
        omega
       split at hq
       ·rename_i hin
        obtain⟨v,hv1,hv2⟩:=hcell _ _ _ _ hq hu
        refine⟨v,?_,hv2⟩
        have e4:q*b.sz=lo*b.sz+(q-lo)*b.sz:=by rw[<-Nat.add_mul];congr 1;omega
        have e5:(q-lo)*b.sz+j<k*b.sz:=by
         have:(q-lo+1)*b.sz<=k*b.sz:=Nat.mul_le_mul_right _ (by omega)
         rw[Nat.add_mul,Nat.one_mul] at this
         omega
        rw[List.append_assoc,List.getElem?_append_right (by rw[hT1];omega),hT1,List.getElem?_append_left (by rw[hdl];omega),show q*b.sz+j-lo*b.sz=(q-lo)*b.sz+j by omega,hget _ e5]
        rw[Nat.add_mul,Nat.add_assoc] at hv1
        exact hv1
       ·rename_i hout
        obtain⟨v,hv1,hv2⟩:=hcell _ _ _ _ hq hu
        refine⟨v,?_,hv2⟩
        by_cases hlt:q<lo
        ·have:(q+1)*b.sz<=lo*b.sz:=Nat.mul_le_mul_right _ (by omega)
         rw[Nat.add_mul,Nat.one_mul] at this
         rw[List.append_assoc,List.getElem?_append_left (by rw[hT1];omega),List.getElem?_take,if_pos (by omega),Array.getElem?_toList]
         exact hv1
        ·have:(lo+k)*b.sz<=q*b.sz:=Nat.mul_le_mul_right _ (by omega)
         rw[Nat.add_mul] at this
         rw[List.getElem?_append_right (by rw[List.length_append,hT1,hdl];omega),List.length_append,hT1,hdl,List.getElem?_drop,show lo*b.sz+k*b.sz+(q*b.sz+j-(lo*b.sz+k*b.sz))=q*b.sz+j by omega,Array.getElem?_toList]
         exact hv1
    ·exact h.elim
   ·exact h.elim
  ·exact h.elim
 ·exact h.elim
theorem AC (hT:aW P tt=true) {ts:List TypeId} {ty:TypeId} {K:AV->ah->Prop} {us:List AV} {vs:List Value} (h:Aw tt ts us M K) (hM:az S F ρ M w) (hv:ba S ρ vs us):
  b8 P S F ρ w (Builtin.copy_ ts.toArray ty vs.toArray) K:=by
 unfold Aw at h
 split at h
 ·rename_i t t' ℓ n sz β dd' enc' l'
  obtain⟨v0,vs1,rfl,h0,hv1⟩:=hv.cons_inv
  obtain⟨v1,vs2,rfl,h1,hv2⟩:=hv1.cons_inv
  cases hv2.nil_inv
  split at h
  ·rename_i s0 b0 e z0 rt α d enc l ht hl
   have hte:=TOk.slice hT ht
   split at h
   ·rename_i i hi
    split at h
    ·rename_i hsz hsz'
     have hsz:=Nat.eq_of_beq_eq_true hsz
     have hsz':=Nat.eq_of_beq_eq_true hsz'
     obtain⟨b,hb,hn,hbs,hz,rfl⟩:=h0.row_inv
     obtain⟨b',hb',hlen,hszs,hcase⟩:=hM.blk _ _ hl
     rw[hb] at hb';cases hb'
     obtain⟨news,hnews⟩:=tD.of_sl (w:=w) hM.sw h1.sl_inv hsz'
     have hsizeOf:=TOk.size hT hi w
     have hlenv:=hnews.lenOf (P:=P)
     have hfc:(Builtin.firstCells i.size l'.length v1).run P w= .ok news.toArray w:=hnews.run (P:=P) w.drawn
     rcases h.out with ⟨hll,l'',hmap,hK⟩|⟨rfl,hK⟩
     rotate_left
     ·have hl0:b.len=0:=by simpa using hlen
      have hmin:Nat.min l'.length b.len=0:=by rw[hl0];exact Nat.min_zero _
      have hf0:(Builtin.firstCells i.size 0 v1).run P w= .ok #[] w:=by
       obtain⟨base,cap,rfl,hbase⟩:=hnews.form
       cases base with
       |none=>exact run_firstCells_none _ _ _ _ _
       |some ad=>exact run_firstCells_some _ _ _ _ _ _ [] (by simp) (fun j v hj=>by simp at hj)
      refine⟨.int .i64 0,_,_,S,ρ,w,?_,hK,ae.le_refl _,aw.le_refl _,hM, .p (.int _ _),bX.refl _⟩
      simp only[Builtin.copy_,dZ.hdr,Sem.run_bind,List.getElem?_toArray,List.getElem?_cons_zero,List.getElem?_cons_succ,run_underlying hte,Result.andThen_ok,Sem.run_pure,hlenv,hmin,hsizeOf,hf0]
      cases b.nil<;>rfl
     have hl2:l''.length=l'.length:=by have:=congrArg List.length hmap;simpa only[List.length_map] using this
     have hmin:Nat.min l'.length b.len=l'.length:=Nat.min_eq_left (by omega)
     rcases hcase with ⟨hnil,rfl,hcap⟩|⟨hnil,hcap,cur,hheap,hvsz,hcell,hSb,hFb⟩
     ·have e2:l''=[]:=List.eq_nil_of_length_eq_zero (by simp only[List.length_nil] at hll;omega)
      subst e2
      refine⟨.int .i64 (l'.length:Int),_,_,S,ρ,w,?_,hK,ae.le_refl _,aw.le_refl _,hM.upd hl hb (fun _ _=>rfl) (fun hh=>hh) ⟨by simpa using hlen,by simp, .inl ⟨hnil,by simp,hcap⟩⟩, .p (.int _ _),bX.refl _⟩
      simp only[Builtin.copy_,dZ.hdr,Sem.run_bind,List.getElem?_toArray,List.getElem?_cons_zero,List.getElem?_cons_succ,run_underlying hte,Result.andThen_ok,Sem.run_pure,hlenv,hmin,hsizeOf,hfc,hnil,if_true]
      rfl
     ·have hfit:news.length<=cur.size:=by
       rw[hnews.len,hvsz,hbs,hsz]
       exact Nat.mul_le_mul_right _ (by omega)
      have hone:∀u∈news,u.oneCell'=true:=by
       by_cases hz0:0<i.size
       ·exact o6 hnews hz0
       ·have:news.length=0:=by rw[hnews.len,show i.size=0 by omega,Nat.mul_zero]
        rw[List.eq_nil_of_length_eq_zero this];simp
      have hst:=run_storeCells_at P b.blk 0 rt news 0 cur w hheap (by simpa using hfit) hone
      refine⟨.int .i64 (l'.length:Int),_,_,S,ρ,_,?_,hK,ae.le_refl _,aw.le_refl _,hM.upd hl hb (w':=w.setRow b.blk (cur.toList.take (0+0)++news++cur.toList.drop (0+0+news.length)).toArray) (fun k hk=>?_) (fun hh=>hh) ?_, .p (.int _ _),bX.setRow hheap⟩
      ·simp only[Builtin.copy_,dZ.hdr,Sem.run_bind,List.getElem?_toArray,List.getElem?_cons_zero,List.getElem?_cons_succ,run_underlying hte,Result.andThen_ok,Sem.run_pure,hlenv,hmin,hsizeOf,hfc,hnil,Bool.false_eq_true,if_false,hst]
       rfl
      ·rcases hk with hk|hk
       ·exact setRow_other _ _ _ _ hk
       ·exact absurd hnil hk
      ·have hlN:(l''++l.drop l'.length).length=l.length:=by rw[List.length_append,List.length_drop];omega
       refine⟨by omega,fun a ha=>?_, .inr ⟨hnil,by omega,_,setRow_heap _ _ _ _ _ _ hheap,?_,fun k a j u hk hu=>?_,hSb,hFb⟩⟩
       ·rcases List.mem_append.1 ha with ha|ha
        ·have:=ot hmap (p:=fun x=>x.length=i.size/\allOne x=true) (fun y hy=>⟨hnews.szs y hy,hnews.one y hy⟩) a ha
         rw[hbs,<-hsz];exact this
        ·exact hszs a (List.mem_of_mem_drop ha)
       ·simp only[List.size_toArray,List.length_append,List.length_take,List.length_drop,Array.length_toList]
        omega
       ·simp only[Nat.add_zero,List.take_zero,List.nil_append,List.getElem?_toArray,Nat.zero_add]
        by_cases hkl:k<l''.length
        ·rw[List.getElem?_append_left hkl] at hk
         rw[hbs,<-hsz]
         obtain⟨v,hv,hr⟩:=hnews.allOne hmap k a j u hk hu
         refine⟨v,?_,hr⟩
         have hlt:=(List.getElem?_eq_some_iff.1 hv).1
         rw[List.getElem?_append_left hlt]
         exact hv
        ·rw[List.getElem?_append_right (by omega),List.getElem?_drop,show l'.length+(k-l''.length)=k by omega] at hk
         obtain⟨v,hv,hr⟩:=hcell k a j u hk hu
         refine⟨v,?_,hr⟩
         have hnl:news.length=l'.length*b.sz:=by rw[hnews.len,hbs,hsz]
         have hge:l'.length*b.sz<=k*b.sz:=Nat.mul_le_mul_right _ (by omega)
         rw[List.getElem?_append_right (by omega),List.getElem?_drop,show news.length+(k*b.sz+j-news.length)=k*b.sz+j by omega,Array.getElem?_toList]
         exact hv
    ·exact h.elim
   ·exact h.elim
  ·exact h.elim
 ·rename_i t t' ℓ lo n sz ℓ' lo' m sz'
  obtain⟨v0,vs1,rfl,h0,hv1⟩:=hv.cons_inv
  obtain⟨v1,vs2,rfl,h1,hv2⟩:=hv1.cons_inv
  cases hv2.nil_inv
  exact yy hT h hM h0 h1
 ·exact h.elim
end
end
section
def AD:AV->Option Value
 | .int k n=>some (.int k n)
 | .bool b=>some (.bool b)
 | .str s=>some (.string s)
 |_=>none
def xj:List AV->Option (List Value)
 |[]=>some []
 |u::us=>match AD u with
  |some v=>match xj us with
   |some vs=>some (v::vs)
   |none=>none
  |none=>none
def t6:AV->Option Value
 | .agg cs=>match xj cs with
  |some vs=>some (.agg vs.toArray)
  |none=>none
 |u=>AD u
def vA:Value->AV
 | .agg vs=> .agg (vs.toList.map cP)
 |v=>cP v
def zA (i:TI):AV:=
 match i.kind.isAgg with
 |true=> .agg (i.zero.map cP)
 |false=>match i.zero with
  |[v]=>cP v
  |_=> .top
def FF (ok:Bool) (u:AV) (b:Bool):AV:=
 match ok with
 |true=> .tup [u, .bool b]
 |false=>u
open Classical in
noncomputable def gO {κ β:Type} (f:κ->Option β) (k:κ) (b:β):κ->Option β:=fun x=>if x=k then some b else f x
theorem gA {κ β:Type} (f:κ->Option β) (k:κ) (b:β):gO f k b k=some b:=by simp[gO]
theorem ic {κ β:Type} (f:κ->Option β) {k x:κ} (b:β) (h:x≠k):gO f k b x=f x:=by simp[gO,h]
structure jL (P:Program) (kt:TypeId) {κ:Type} (ek:κ->Value):Prop where
 inj:∀a b,ek a=ek b->a=b
 chk:∀e k w,(Instr.checkKey e 10000 kt (ek k)).run P w= .ok () w
 find:∀k (es:List MapEntry) w,(∀e∈es,∃k',e.key=ek k')->
  ∃r:Option (Nat×Value),(Instr.findKey kt (ek k) es).run P w= .ok r w/\(∀i v,r=some (i,v)->∃e,es[i]? =some e/\e.key=ek k/\e.val=v)/\(r=none->∀e∈es,e.key≠ek k)
 bits:∀k,Instr.sameBits 10000 (ek k) (ek k)=true
structure Ha (d:Nat) (M:ah) (K:AV->ah->Prop):Prop where
 out:∃(κ β:Type) (ek:κ->Value) (ev:β->Value),K (.mp d) (M.set d (.map ek ev fun _=>none))
theorem Hb {d:Nat} {M:ah} {K:AV->ah->Prop} {κ β:Type} (ek:κ->Value) (ev:β->Value) (h:K (.mp d) (M.set d (.map ek ev fun _=>none))):Ha d M K:=⟨⟨κ,β,ek,ev,h⟩⟩
structure E5 (P:Program) (kt:TypeId) {κ β:Type} (ek:κ->Value) (f:κ->Option β) (u:AV) (k1:β->Prop) (k2:Prop):Prop where
 out:jL P kt ek/\∃k,t6 u=some (ek k)/\(∀b,f k=some b->k1 b)/\(f k=none->k2)
theorem E6 {P:Program} {kt:TypeId} {κ β:Type} {ek:κ->Value} {f:κ->Option β} {u:AV} {k1:β->Prop} {k2:Prop} (hk:jL P kt ek) (k:κ) (hu:t6 u=some (ek k)) (h1:∀b,f k=some b->k1 b) (h2:f k=none->k2):E5 P kt ek f u k1 k2:=⟨⟨hk,k,hu,h1,h2⟩⟩
structure Hc (P:Program) (kt:TypeId) {κ β:Type} (ek:κ->Value) (ev:β->Value) (u x:AV) (K:κ->β->Prop):Prop where
 out:jL P kt ek/\∃k b,t6 u=some (ek k)/\t6 x=some (ev b)/\K k b
theorem Hd {P:Program} {kt:TypeId} {κ β:Type} {ek:κ->Value} {ev:β->Value} {u x:AV} {K:κ->β->Prop} (hk:jL P kt ek) (k:κ) (b:β) (hu:t6 u=some (ek k)) (hx:t6 x=some (ev b)) (h:K k b):Hc P kt ek ev u x K:=⟨⟨hk,k,b,hu,hx,h⟩⟩
structure wi (A B:Prop):Prop where
 out:A\/B
theorem FG {A B:Prop} (h:A):wi A B:=⟨.inl h⟩
theorem FH {A B:Prop} (h:B):wi A B:=⟨.inr h⟩
def FI (dst:Option Tmp) (M:ah) (K:AV->ah->Prop):Prop:=
 match dst with
 |some d=>match M d with
  |none=>Ha d M K
  |some _=>False
 |none=>False
def AE (P:Program) (tt:TT) (t:TypeId) (ok:Bool) (us:List AV) (M:ah) (K:AV->ah->Prop):Prop:=
 match us with
 |[.mp ℓ,u]=>match tt.find t,M ℓ with
  |some ⟨_,_, .map kt e,_⟩,some (.map ek ev f)=>match tt.find e with
   |some i=>E5 P kt ek f u (fun b=>j9 (FF ok (vA (ev b)) true) fun x=>K x M) (j9 (FF ok (zA i) false) fun x=>K x M)
   |none=>False
  |_,_=>False
 |_=>False
def FJ (P:Program) (tt:TT) (t:TypeId) (us:List AV) (M:ah) (K:ah->Prop):Prop:=
 match us with
 |[.mp ℓ,u,x]=>match tt.find t,M ℓ with
  |some ⟨_,_, .map kt _,_⟩,some (.map ek ev f)=>Hc P kt ek ev u x fun k b=>K (M.set ℓ (.map ek ev (gO f k b)))
  |_,_=>False
 |_=>False
structure He {α:Type} (enc:α->List AV) (l:List α) (K:List Int->Prop):Prop where
 out:∃ns:List Int,l.map enc=ns.map (fun n=>[AV.int .u8 n])/\K ns
theorem IU {α:Type} {enc:α->List AV} {l:List α} {K:List Int->Prop} (ns:List Int) (h:l.map enc=ns.map (fun n=>[AV.int .u8 n])) (hk:K ns):He enc l K:=⟨⟨ns,h,hk⟩⟩
def FK (tt:TT) (s d:TypeId) (ℓ:Nat) (M:ah) (K:AV->ah->Prop):Prop:=
 match tt.find s with
 |some ⟨_,_, .slice e,_⟩=>match tt.find e,tt.find d,M ℓ with
  |some ⟨_,_, .int .u8,_⟩,some ⟨_,_, .string,_⟩,some (.row _ _ enc l)=>He enc l fun ns=>K (.str (strOfNums ns)) M
  |_,_,_=>False
 |_=>False
def xk (tt:TT) (t:TypeId) (ℓ n sz:Nat) (lo hi:Int) (M:ah) (K:AV->ah->Prop):Prop:=
 match tt.find t with
 |some ⟨_,_, .slice e,_⟩=>match tt.find e,M ℓ with
  |some i,some (.row _ _ _ _)=>match Nat.beq i.size sz with
   |true=>fX (0<=lo/\lo<=hi/\hi<=n) (K (.part ℓ lo.toNat (hi-lo).toNat sz) M)
   |false=>False
  |_,_=>False
 |_=>False
def wj (tt:TT) (t:TypeId) (ℓ lo n sz:Nat) (a:Int) (M:ah) (K:AV->ah->Prop):Prop:=
 match tt.find t with
 |some ⟨_,_, .slice e,_⟩=>match tt.find e,M ℓ with
  |some i,some (.row _ _ _ _)=>match Nat.beq i.size sz with
   |true=>fX (0<=a/\a<=n/\0<n) (K (.part ℓ (lo+a.toNat) (n-a.toNat) sz) M)
   |false=>False
  |_,_=>False
 |_=>False
section
variable {S F:ae} {ρ:aw} {M:ah} {w:World} {P:Program} {tt:TT}
theorem t7 {u:AV} {x v:Value} (h:AD u=some x) (hv:RV S ρ v u):v=x:=by
 cases u with
 |int k n=>cases h;exact hv.int_inv
 |bool b=>cases h;exact hv.bool_inv
 |str s=>cases h;exact hv.str_inv
 |_=>cases h
theorem t8:∀{us:List AV} {xs vs:List Value},xj us=some xs->ba S ρ vs us->vs=xs
 |[],xs,vs,h,hv=>by cases h;exact hv.nil_inv
 |u::us,xs,vs,h,hv=>by
  obtain⟨v,vs',rfl,h1,h2⟩:=hv.cons_inv
  unfold xj at h
  split at h
  ·rename_i x hx
   split at h
   ·rename_i ys hy
    cases h
    rw[t7 hx h1,t8 hy h2]
   ·cases h
  ·cases h
theorem sE {u:AV} {x v:Value} (h:t6 u=some x) (hv:RV S ρ v u):v=x:=by
 unfold t6 at h
 split at h
 ·rename_i cs
  obtain⟨vs,rfl,hr⟩:=hv.agg_inv
  split at h
  ·rename_i ys hy
   cases h
   have:=t8 hy hr
   rw[<-this]
  ·cases h
 ·exact t7 h hv
theorem Hf (v:Value):RV S ρ v (vA v):=by
 unfold vA
 split
 ·rename_i vs
  have:=RV.agg_mk (S:=S) (ρ:=ρ) (dN (S:=S) (ρ:=ρ) vs.toList)
  simpa using this
 ·exact .p (iK v)
theorem Hg (hT:aW P tt=true) {t:TypeId} {i:TI} (h:tt.find t=some i) (w:World):∃z,(zeroValue t).run P w= .ok z w/\RV S ρ z (zA i):=by
 obtain⟨x,z,hx,hxs,hxb,hz,hzc,hag,hzl⟩:=TOk.info hT h
 refine⟨z,by simp[zeroValue,typeInfo,hx,hz],?_⟩
 unfold zA
 split
 ·rename_i hk
  rw[hk] at hag
  cases z<;>first|(simp[Dr] at hag;done)|skip
  rename_i cs
  have e:cs.toList=i.zero:=hzc
  rw[<-e]
  have:=RV.agg_mk (S:=S) (ρ:=ρ) (dN (S:=S) (ρ:=ρ) cs.toList)
  simpa using this
 ·rename_i hk
  split
  ·rename_i v hv
   rw[hk] at hag
   have e:z.cells.toList=[v]:=hzc.trans hv
   have:z=v:=by
    cases z<;>first|(simp[Dr] at hag;done)|(simp[Value.cells] at e;exact e)
   rw[this]
   exact .p (iK v)
  ·exact .p (.top _)
def FL (ok:Bool) (v:Value) (b:Bool):Value:=if ok then .tuple #[v, .bool b] else v
theorem xl (ok:Bool) {v:Value} {u:AV} (b:Bool) (h:RV S ρ v u):RV S ρ (FL ok v b) (FF ok u b):=by
 cases ok with
 |false=>exact h
 |true=>exact RV.tup_mk (vs:=[v, .bool b]) (.cons h (.cons (.p (.bool b)) (ba.nil _ _)))
theorem TOk.map (hT:aW P tt=true) {t k e:TypeId} {a b:Nat} {z:List Value} (h:tt.find t=some ⟨a,b, .map k e,z⟩):P.underlying t=some (.map k e):=by
 have:=TOk.kind hT h
 unfold gH at this
 split at this<;>simp_all
theorem DA {w:World} {k:Nat} {es es':Array MapEntry} {c c':Nat} (h:w.heap[k]? =some (.map es c)):bX w {w with heap:=w.heap.setIfInBounds k (.map es' c')}:=by
 have hk:k<w.heap.size:=(Array.getElem?_eq_some_iff.1 h).1
 refine⟨rfl,rfl,rfl,Nat.le_refl _,by simp,fun a _=>?_⟩
 unfold World.frozen?
 by_cases e:a.block=k
 ·have:(w.heap.setIfInBounds k (.map es' c'))[k]? =some (.map es' c'):=Array.getElem?_setIfInBounds_self_of_lt hk
  simp only[e,this,h]
 ·have:(w.heap.setIfInBounds k (.map es' c'))[a.block]? =w.heap[a.block]?:=Array.getElem?_setIfInBounds_ne (fun h=>e h.symm)
  simp only[this]
theorem DB {t:TypeId} {dst:Option Tmp} {K:AV->ah->Prop} (h:FI dst M K) (hM:az S F ρ M w):b8 P S F ρ w (Instr.makeMap t none) K:=by
 unfold FI at h
 split at h
 ·rename_i d
  split at h
  ·rename_i hd
   obtain⟨κ,β,ek,ev,hK⟩:=h.out
   let b:dZ:=⟨w.heap.size,0,0,0,false⟩
   refine⟨.map (some w.heap.size),_,_,S,aw.set ρ d b,w.alloc (.map #[] 0),?_,hK,ae.le_refl _,aw.set_le _ (hM.fresh hd),hM.allocO hd _ b _ (fun _=>rfl) ?_, .mp d b (aw.set_eq _ _ _),?_⟩
   ·simp only[Instr.makeMap,Sem.run_bind,Result.andThen_ok,Sem.run_pure,run_newObj]
    rfl
   ·exact⟨#[],0,bp _ _,⟨by simp,by simp,fun k b h=>by cases h⟩,ae.inW_size hM.sw,ae.inW_size hM.fw⟩
   ·refine⟨rfl,rfl,rfl,Nat.le_refl _,by show w.heap.size<=(w.heap.push _).size;simp,fun a ha=>?_⟩
    unfold World.frozen?
    rw[gz _ _ _ ha]
  ·exact h.elim
 ·exact h.elim
theorem AF (hT:aW P tt=true) {t:TypeId} {ok:Bool} {us:List AV} {K:AV->ah->Prop} {vm vk:Value} (h:AE P tt t ok us M K) (hM:az S F ρ M w) (hv:ba S ρ [vm,vk] us):
  b8 P S F ρ w (Instr.lookup t vm vk ok) K:=by
 unfold AE at h
 split at h
 ·rename_i ℓ u
  obtain⟨v0,vs1,e,h0,hv1⟩:=hv.cons_inv
  obtain⟨v1,vs2,e',h1,_⟩:=hv1.cons_inv
  subst e'
  simp only[List.cons.injEq] at e
  obtain⟨rfl,rfl,_⟩:=e
  obtain⟨b,hb,rfl⟩:=h0.mp_inv
  split at h
  ·rename_i kt e _ κ β ek ev f ht hl
   split at h
   ·rename_i i hi
    obtain⟨hk,k,hu,hf1,hf2⟩:=h.out
    obtain⟨b',hb',es,ck,hh,⟨nd,hs1,hs2⟩,hS,hF⟩:=hM.blk _ _ hl
    rw[hb] at hb';cases hb'
    have hkey:=sE hu h1
    subst hkey
    have hg:(getObj b.blk).run P w= .ok (.map es ck) w:=by simp[getObj,Sem.run,hh]
    obtain⟨r,hr,hr1,hr2⟩:=hk.find k es.toList w (fun e he=>let ⟨k',_,h,_⟩:=hs1 e he;⟨k',h⟩)
    have hmt:=TOk.map hT ht
    cases r with
    |none=>
     have hn:f k=none:=by
      cases hfk:f k with
      |none=>rfl
      |some b=>obtain⟨e,he,hke⟩:=hs2 k b hfk;exact absurd hke (hr2 rfl e he)
     have hK:=hf2 hn
     rw[aK] at hK
     obtain⟨z,hz,hzr⟩:=Hg (S:=S) (ρ:=ρ) hT hi w
     refine⟨FL ok z false,_,M,S,ρ,w,?_,hK,ae.le_refl _,aw.le_refl _,hM,xl ok false hzr,bX.refl _⟩
     simp only[Instr.lookup,Sem.run_bind,run_underlying hmt,Result.andThen_ok,hg,Sem.run_pure,hk.chk,hr,hz]
     cases ok<;>rfl
    |some p=>
     obtain⟨j,v⟩:=p
     obtain⟨e,he,hke,hve⟩:=hr1 j v rfl
     obtain⟨k',b',hk1,hk2,hk3⟩:=hs1 e (List.mem_of_getElem? he)
     have:k'=k:=hk.inj _ _ (hk1.symm.trans hke)
     subst this
     have hK:=hf1 b' hk2
     rw[aK] at hK
     refine⟨FL ok v true,_,M,S,ρ,w,?_,hK,ae.le_refl _,aw.le_refl _,hM,xl ok true ?_,bX.refl _⟩
     ·simp only[Instr.lookup,Sem.run_bind,run_underlying hmt,Result.andThen_ok,hg,Sem.run_pure,hk.chk,hr]
      cases ok<;>rfl
     ·rw[<-hve,hk3];exact Hf _
   ·exact h.elim
  ·exact h.elim
 ·exact h.elim
theorem yA {l:List Value} (h:l.Nodup) {i j:Nat} {a:Value} (hi:l[i]? =some a) (hj:l[j]? =some a):i=j:=by
 have h1:=(List.getElem?_eq_some_iff.1 hi).1
 exact(List.getElem?_inj h1 h).1 (hi.trans hj.symm)
theorem DC (hT:aW P tt=true) {t:TypeId} {us:List AV} {K:ah->Prop} {vm vk vx:Value} (h:FJ P tt t us M K) (hM:az S F ρ M w) (hv:ba S ρ [vm,vk,vx] us):
  lW P S F ρ w (Instr.mapUpdate t vm vk vx) K:=by
 unfold FJ at h
 split at h
 ·rename_i ℓ u x
  obtain⟨v0,vs1,e,h0,hv1⟩:=hv.cons_inv
  obtain⟨v1,vs2,e',h1,hv2⟩:=hv1.cons_inv
  obtain⟨v2,vs3,e'',h2,_⟩:=hv2.cons_inv
  subst e''
  subst e'
  simp only[List.cons.injEq] at e
  obtain⟨rfl,rfl,rfl,_⟩:=e
  obtain⟨b,hb,rfl⟩:=h0.mp_inv
  split at h
  ·rename_i kt _ _ κ β ek ev f ht hl
   obtain⟨hk,k,y,hu,hx,hK⟩:=h.out
   obtain⟨b',hb',es,ck,hh,⟨nd,hs1,hs2⟩,hS,hF⟩:=hM.blk _ _ hl
   rw[hb] at hb';cases hb'
   have hkey:=sE hu h1
   subst hkey
   have hval:=sE hx h2
   subst hval
   have hg:(getObj b.blk).run P w= .ok (.map es ck) w:=by simp[getObj,Sem.run,hh]
   obtain⟨r,hr,hr1,hr2⟩:=hk.find k es.toList w (fun e he=>let ⟨k',_,h,_⟩:=hs1 e he;⟨k',h⟩)
   have hmt:=TOk.map hT ht
   have hlt:=cj hh
   have fin:∀(es':Array MapEntry) (c':Nat),(Instr.mapUpdate t (.map (some b.blk)) (ek k) (ev y)).run P w= .ok () {w with heap:=w.heap.setIfInBounds b.blk (.map es' c')}->
     Aa ek ev (gO f k y) es'->lW P S F ρ w (Instr.mapUpdate t (.map (some b.blk)) (ek k) (ev y)) K:=by
    intro es' c' hrun hrep
    refine⟨_,S,ρ,_,hrun,hK,ae.le_refl _,aw.le_refl _,hM.upd hl hb (fun q hq=>?_) (fun _=>trivial) ?_,DA hh⟩
    ·have hne:q≠b.blk:=by
      rcases hq with hq|hq
      ·exact hq
      ·exact absurd trivial hq
     show(w.heap.setIfInBounds b.blk _)[q]? =_
     rw[Array.getElem?_setIfInBounds_ne (fun e=>hne e.symm)]
    ·refine⟨es',c',?_,hrep,hS,hF⟩
     show(w.heap.setIfInBounds b.blk _)[b.blk]? =_
     rw[Array.getElem?_setIfInBounds_self_of_lt hlt]
   have hset:∀o:Obj,(setObj b.blk o).run P w= .ok () {w with heap:=w.heap.setIfInBounds b.blk o}:=by
    intro o;simp[setObj,Sem.run,hh]
   cases r with
   |none=>
    have hno:=hr2 rfl
    refine fin (es.push {key:=ek k,val:=ev y,born:=ck}) (ck+1) ?_ ⟨?_,fun e he=>?_,fun k' b' hk'=>?_⟩
    ·simp only[Instr.mapUpdate,Sem.run_bind,run_underlying hmt,Result.andThen_ok,hg,hk.chk,hr,hset]
    ·rw[Array.toList_push,List.map_append,List.nodup_append]
     refine⟨nd,by simp,fun a ha c hc=>?_⟩
     simp only[List.map_cons,List.map_nil,List.mem_singleton] at hc
     subst hc
     obtain⟨e,he,rfl⟩:=List.mem_map.1 ha
     exact hno e he
    ·rw[Array.toList_push,List.mem_append,List.mem_singleton] at he
     rcases he with he|rfl
     ·obtain⟨k',b',q1,q2,q3⟩:=hs1 e he
      refine⟨k',b',q1,?_,q3⟩
      rw[ic _ _ (fun e'=>hno e he (by rw[q1,e'])),q2]
     ·exact⟨k,y,rfl,gA _ _ _,rfl⟩
    ·by_cases e':k'=k
     ·subst e';exact⟨_,by rw[Array.toList_push];exact List.mem_append_right _ (List.mem_singleton.2 rfl),rfl⟩
     ·rw[ic _ _ e'] at hk'
      obtain⟨e,he,q⟩:=hs2 k' b' hk'
      exact⟨e,by rw[Array.toList_push];exact List.mem_append_left _ he,q⟩
   |some p=>
    obtain⟨j,v⟩:=p
    obtain⟨e,he,hke,hve⟩:=hr1 j v rfl
    have hej:es[j]? =some e:=by simpa using he
    have hnew:∀q,(es.modify j fun e=>{e with key:=ek k,val:=ev y}).toList[q]? =if q=j then some {e with key:=ek k,val:=ev y} else es.toList[q]?:=by
     intro q
     rw[Array.getElem?_toList,Array.getElem?_modify]
     by_cases e':q=j
     ·subst e';simp[hej]
     ·rw[if_neg (fun h=>e' h.symm),if_neg e'];simp
    have hkeys:(es.modify j fun e=>{e with key:=ek k,val:=ev y}).toList.map (·.key)=es.toList.map (·.key):=by
     apply List.ext_getElem?
     intro q
     rw[List.getElem?_map,List.getElem?_map,hnew q]
     by_cases e':q=j
     ·subst e';rw[if_pos rfl,he];simp[hke]
     ·rw[if_neg e']
    refine fin (es.modify j fun e=>{e with key:=ek k,val:=ev y}) ck ?_ ⟨?_,fun e2 he2=>?_,fun k' b' hk'=>?_⟩
    ·have hst:(Instr.keyThatStays (((es[j]?).map (·.key)).getD (ek k)) (ek k)).run P w= .ok (ek k) w:=by
      rw[hej]
      simp only[Option.map_some,Option.getD_some,Instr.keyThatStays,hke,hk.bits,if_true,Sem.run_pure]
     simp only[Instr.mapUpdate,Sem.run_bind,run_underlying hmt,Result.andThen_ok,hg,hk.chk,hr,hst,hset]
    ·rw[hkeys];exact nd
    ·obtain⟨q,hq⟩:=List.getElem?_of_mem he2
     rw[hnew q] at hq
     by_cases e':q=j
     ·rw[if_pos e'] at hq
      cases hq
      exact⟨k,y,rfl,gA _ _ _,rfl⟩
     ·rw[if_neg e'] at hq
      obtain⟨k',b',q1,q2,q3⟩:=hs1 e2 (List.mem_of_getElem? hq)
      refine⟨k',b',q1,?_,q3⟩
      rw[ic,q2]
      intro ek'
      refine e' (yA nd (a:=ek k) ?_ ?_)
      ·rw[List.getElem?_map,hq];simp[q1,ek']
      ·rw[List.getElem?_map,he];simp[hke]
    ·by_cases e':k'=k
     ·subst e'
      exact⟨_,List.mem_of_getElem? ((hnew j).trans (if_pos rfl)),rfl⟩
     ·rw[ic _ _ e'] at hk'
      obtain⟨e2,he2,q⟩:=hs2 k' b' hk'
      obtain⟨m,hm⟩:=List.getElem?_of_mem he2
      have hmj:m≠j:=fun h=>by
       subst h
       rw[he] at hm
       cases hm
       exact e' (hk.inj _ _ (q.symm.trans hke))
      exact⟨e2,List.mem_of_getElem? ((hnew m).trans ((if_neg hmj).trans hm)),q⟩
  ·exact h.elim
 ·exact h.elim
theorem TOk.strT (hT:aW P tt=true) {t:TypeId} {a b:Nat} {z:List Value} (h:tt.find t=some ⟨a,b, .string,z⟩):P.underlying t=some .string:=by
 have:=TOk.kind hT h
 unfold gH at this
 split at this<;>simp_all
theorem DD (hT:aW P tt=true) {s d:TypeId} {ℓ n sz:Nat} {K:AV->ah->Prop} {v:Value} (h:FK tt s d ℓ M K) (hM:az S F ρ M w) (hv:RV S ρ v (.row ℓ n sz)):b8 P S F ρ w (convert s d v) K:=by
 unfold FK at h
 split at h
 ·rename_i a1 a2 e a3 hs
  have hse:=TOk.slice hT hs
  split at h
  ·rename_i b1 b2 b3 c1 c2 c3 rt α dd enc l he hd hM'
   have heu:=TOk.int hT he
   have hdu:=TOk.strT hT hd
   obtain⟨ns,hns,hK⟩:=h.out
   obtain⟨lb,hb,rfl,rfl,hz,rfl⟩:=hv.row_inv
   obtain⟨b',hb',hlen,hszs,hcase⟩:=hM.blk _ _ hM'
   rw[hb] at hb';cases hb'
   have hnl:ns.length=l.length:=by
    have:=congrArg List.length hns
    simpa using this.symm
   rcases hcase with ⟨hnil,rfl,hcap⟩|⟨hnil,hcap,vs,hheap,hsize,hcell,hS,hF⟩
   ·have hn0:ns=[]:=List.eq_nil_of_length_eq_zero (by simpa using hnl)
    subst hn0
    refine⟨_,_,M,S,ρ,w,?_,hK,ae.le_refl _,aw.le_refl _,hM, .p (.str _),bX.refl _⟩
    have:lb.hdr= .slice none 0 0:=by
     simp at hlen
     simp only[dZ.hdr,hnil,if_true,hlen,hcap]
    rw[this,run_convert_bytes_string w s d e none 0 0 hse heu hdu]
    simp[Conv.bytesToString]
    rfl
   ·have hat:∀i (hi:i<l.length),∃x,enc l[i]=[AV.int .u8 x]/\ns[i]? =some x:=fun i hi=>by
     have h1:=congrArg (fun q=>q[i]?) hns
     simp only[List.getElem?_map,List.getElem?_eq_getElem hi,Option.map_some] at h1
     rw[List.getElem?_eq_getElem (by omega:i<ns.length)] at h1⊢
     simp only[Option.map_some,Option.some.injEq] at h1
     exact⟨_,h1,rfl⟩
    by_cases hl0:l.length=0
    ·have hn0:ns=[]:=List.eq_nil_of_length_eq_zero (by omega)
     subst hn0
     refine⟨_,_,M,S,ρ,w,?_,hK,ae.le_refl _,aw.le_refl _,hM, .p (.str _),bX.refl _⟩
     have hh:lb.hdr= .slice (some ⟨lb.blk,0,none⟩) 0 lb.cap:=by simp only[dZ.hdr,hnil,hlen,hl0];rfl
     rw[hh]
     exact run_convert_bytes_arg w s e hse heu lb.blk 0 0 lb.cap [] rfl (fun i hi=>by omega) d hdu
    ·have hsz1:lb.sz=1:=by
      obtain⟨x,hx,_⟩:=hat 0 (by omega)
      have:=(hszs _ (List.getElem_mem (by omega:0<l.length))).1
      rw[hx] at this
      exact this.symm
     rw[hsz1] at hcell hsize
     refine⟨_,_,M,S,ρ,w,?_,hK,ae.le_refl _,aw.le_refl _,hM, .p (.str _),bX.refl _⟩
     have hh:lb.hdr= .slice (some ⟨lb.blk,0,none⟩) l.length lb.cap:=by simp only[dZ.hdr,hnil,hlen];rfl
     rw[hh]
     refine run_convert_bytes_arg w s e hse heu lb.blk 0 l.length lb.cap ns hnl (fun i hi=>?_) d hdu
     obtain⟨x,hx,hxn⟩:=hat i hi
     obtain⟨v,h1,h2⟩:=hcell i l[i] 0 (.int .u8 x) (List.getElem?_eq_getElem hi) (by rw[hx];rfl)
     cases h2
     rw[Nat.zero_add]
     simp only[World.cell?,hheap]
     have:ns.getD i 0=x:=by rw[List.getD_eq_getElem?_getD,hxn];rfl
     rw[this]
     simpa using h1
  ·exact h.elim
 ·exact h.elim
theorem t9 (hT:aW P tt=true) {t:TypeId} {ℓ n sz:Nat} {lo hi:Int} {kl kh:IntKind} {K:AV->ah->Prop} {v:Value} (h:xk tt t ℓ n sz lo hi M K) (hM:az S F ρ M w) (hv:RV S ρ v (.row ℓ n sz)) {vl vh:Option Value}
  (hl:vl=some (.int kl lo)\/(vl=none/\lo=0)) (hh:vh=some (.int kh hi)\/(vh=none/\hi=n)):b8 P S F ρ w (Instr.sliceAt t v vl vh none) K:=by
 unfold xk at h
 split at h
 ·rename_i a1 a2 e a3 ht
  have hte:=TOk.slice hT ht
  split at h
  ·rename_i i rt α dd enc l hi' hM'
   split at h
   ·rename_i hs
    have hs:=Nat.eq_of_beq_eq_true hs
    rw[bA] at h
    obtain⟨⟨h0,h1,h2⟩,hK⟩:=h
    obtain⟨lb,hb,rfl,rfl,hz,rfl⟩:=hv.row_inv
    obtain⟨b',hb',hlen,hszs,hcase⟩:=hM.blk _ _ hM'
    rw[hb] at hb';cases hb'
    have hsz:=TOk.size hT hi' w
    have hcap:lb.len<=lb.cap:=by
     rcases hcase with ⟨_,rfl,h2⟩|⟨_,h2,_⟩
     ·simp at hlen;omega
     ·omega
    have hnil:0<lb.len->lb.nil=false:=fun hp=>by
     cases hn:lb.nil with
     |false=>rfl
     |true=>have:=hz hn;omega
    let base:Option Addr:=if lb.nil then none else some ⟨lb.blk,0,none⟩
    refine⟨.slice (if lb.cap=lo.toNat then base else base.map (·.add (lo.toNat*i.size))) (hi.toNat-lo.toNat) (lb.cap-lo.toNat),_,M,S,ρ,w,?_,hK,ae.le_refl _,aw.le_refl _,hM,?_,bX.refl _⟩
    ·have e1:hi<=(lb.cap:Int):=by omega
     have e2:0<=hi:=by omega
     have e3:lo<=(hi.toNat:Int):=by omega
     rcases hl with rfl|⟨rfl,rfl⟩<;>rcases hh with rfl|⟨rfl,rfl⟩
     ·simp only[Instr.sliceAt,Instr.slice,Sem.run_bind,run_underlying hte,Result.andThen_ok,dZ.hdr,Instr.sliceBounds,Sem.run_pure,Instr.sliceBound,asIntOf,h0,e1,e2,e3,and_self,if_true,hsz,base]
      try rfl
     ·have e3':lo<=(lb.len:Int):=by omega
      simp only[Instr.sliceAt,Instr.slice,Sem.run_bind,run_underlying hte,Result.andThen_ok,dZ.hdr,Instr.sliceBounds,Sem.run_pure,Instr.sliceBound,asIntOf,h0,e3',and_self,if_true,hsz,base,Int.toNat_natCast]
      try rfl
     ·simp only[Instr.sliceAt,Instr.slice,Sem.run_bind,run_underlying hte,Result.andThen_ok,dZ.hdr,Instr.sliceBounds,Sem.run_pure,Instr.sliceBound,asIntOf,e1,e2,and_self,if_true,hsz,base]
      try rfl
     ·simp only[Instr.sliceAt,Instr.slice,Sem.run_bind,run_underlying hte,Result.andThen_ok,dZ.hdr,Instr.sliceBounds,Sem.run_pure,hsz,base,Int.toNat_natCast]
      try rfl
    ·have en:(hi-lo).toNat=hi.toNat-lo.toNat:=by omega
     rw[en]
     refine .part ℓ lo.toNat _ lb.sz lb _ _ hb rfl (by omega) (fun hp=>?_) fun hp=>by omega
     have hn:=hnil (by omega)
     refine⟨hn,?_⟩
     rw[if_neg (by omega)]
     simp only[base,hn,Bool.false_eq_true,if_false,Option.map_some,Addr.add_mk,Nat.zero_add,hs]
   ·exact h.elim
  ·exact h.elim
 ·exact h.elim
theorem yB (hT:aW P tt=true) {t:TypeId} {ℓ lo n sz:Nat} {z:Int} {k:IntKind} {K:AV->ah->Prop} {v:Value} (h:wj tt t ℓ lo n sz z M K) (hM:az S F ρ M w) (hv:RV S ρ v (.part ℓ lo n sz)):
  b8 P S F ρ w (Instr.sliceAt t v (some (.int k z)) none none) K:=by
 unfold wj at h
 split at h
 ·rename_i a1 a2 e a3 ht
  have hte:=TOk.slice hT ht
  split at h
  ·rename_i i rt α dd enc l hi' hM'
   split at h
   ·rename_i hs
    have hs:=Nat.eq_of_beq_eq_true hs
    rw[bA] at h
    obtain⟨⟨h0,h1,hn0⟩,hK⟩:=h
    obtain⟨lb,ad,c,hb,rfl,hlo,ha,hc,rfl⟩:=hv.part_inv
    obtain⟨hnil,rfl⟩:=ha hn0
    have hc:=hc hn0
    obtain⟨b',hb',hlen,hszs,hcase⟩:=hM.blk _ _ hM'
    rw[hb] at hb';cases hb'
    have hsz:=TOk.size hT hi' w
    have hcap:lb.len<=lb.cap:=by
     rcases hcase with ⟨_,rfl,h2⟩|⟨_,h2,_⟩
     ·simp at hlen;omega
     ·omega
    let base:Option Addr:=some ⟨lb.blk,lo*lb.sz,none⟩
    refine⟨.slice (if c=z.toNat then base else base.map (·.add (z.toNat*i.size))) (n-z.toNat) (c-z.toNat),_,M,S,ρ,w,?_,hK,ae.le_refl _,aw.le_refl _,hM,?_,bX.refl _⟩
    ·simp only[Instr.sliceAt,Instr.slice,Sem.run_bind,run_underlying hte,Result.andThen_ok,Instr.sliceBounds,Sem.run_pure,Instr.sliceBound,asIntOf,h0,h1,and_self,if_true,hsz,base,Int.toNat_natCast]
     try rfl
    ·refine .part ℓ (lo+z.toNat) _ lb.sz lb _ _ hb rfl (by omega) (fun hp=>?_) fun hp=>by omega
     refine⟨hnil,?_⟩
     rw[if_neg (by omega)]
     simp only[base,Option.map_some,Addr.add_mk,hs,Nat.add_mul]
   ·exact h.elim
  ·exact h.elim
 ·exact h.elim
end
section
variable {P:Program}
theorem li {kt:TypeId} {κ:Type} {ek:κ->Value} (heq:∀a b w,∃r,(Op.equal kt (ek a) (ek b)).run P w= .ok r w/\(r=true↔ek a=ek b)) (k:κ) (w:World):
  ∀(es:List MapEntry) (i:Nat),(∀e∈es,∃k',e.key=ek k')->∃r:Option (Nat×Value),(Instr.findAsking kt (ek k) es i).run P w= .ok r w/\(∀j v,r=some (j,v)->∃m e,j=i+m/\es[m]? =some e/\e.key=ek k/\e.val=v)/\(r=none->∀e∈es,e.key≠ek k)
 |[],i,_=>⟨none,rfl,fun _ _ h=>(by cases h),fun _ e he=>(by cases he)⟩
 |e::es,i,h=>by
  obtain⟨k',hk'⟩:=h e List.mem_cons_self
  obtain⟨r,hr,hr'⟩:=heq k k' w
  have hr2:(Op.equal kt (ek k) e.key).run P w= .ok r w:=by rw[hk'];exact hr
  cases r with
  |true=>
   refine⟨some (i,e.val),by simp only[Instr.findAsking,Sem.run_bind,hr2,Result.andThen_ok,if_true,Sem.run_pure],fun j v hj=>?_,fun hn=>(by cases hn)⟩
   cases hj
   exact⟨0,e,rfl,rfl,hk'.trans (hr'.1 rfl).symm,rfl⟩
  |false=>
   obtain⟨r,g1,g2,g3⟩:=li heq k w es (i+1) (fun e he=>h e (List.mem_cons_of_mem _ he))
   refine⟨r,by simp only[Instr.findAsking,Sem.run_bind,hr2,Result.andThen_ok,Bool.false_eq_true,if_false];exact g1,fun j v hj=>?_,fun hn e2 he2=>?_⟩
   ·obtain⟨m,e',q1,q2,q3⟩:=g2 j v hj
    exact⟨m+1,e',by omega,by simpa using q2,q3⟩
   ·rcases List.mem_cons.1 he2 with rfl|he2
    ·intro e'
     have:=hr'.2 (e'.symm.trans hk')
     cases this
    ·exact g3 hn e2 he2
theorem o7 {kd:TypeDesc} {κ:Type} {ek:κ->Value} (heq:∀a b,∃r,Instr.sameNow kd (ek a) (ek b)=some r/\(r=true↔ek a=ek b)) (k:κ):
  ∀(es:List MapEntry) (i:Nat),(∀e∈es,∃k',e.key=ek k')->∃r:Option (Nat×Value),Instr.findNow kd (ek k) es i=some r/\(∀j v,r=some (j,v)->∃m e,j=i+m/\es[m]? =some e/\e.key=ek k/\e.val=v)/\(r=none->∀e∈es,e.key≠ek k)
 |[],i,_=>⟨none,rfl,fun _ _ h=>(by cases h),fun _ e he=>(by cases he)⟩
 |e::es,i,h=>by
  obtain⟨k',hk'⟩:=h e List.mem_cons_self
  obtain⟨r,hr,hr'⟩:=heq k k'
  have hr2:Instr.sameNow kd (ek k) e.key=some r:=by rw[hk'];exact hr
  cases r with
  |true=>
   refine⟨some (i,e.val),by simp only[Instr.findNow,hr2],fun j v hj=>?_,fun hn=>(by cases hn)⟩
   cases hj
   exact⟨0,e,rfl,rfl,hk'.trans (hr'.1 rfl).symm,rfl⟩
  |false=>
   obtain⟨r,g1,g2,g3⟩:=o7 heq k es (i+1) (fun e he=>h e (List.mem_cons_of_mem _ he))
   refine⟨r,by simp only[Instr.findNow,hr2];exact g1,fun j v hj=>?_,fun hn e2 he2=>?_⟩
   ·obtain⟨m,e',q1,q2,q3⟩:=g2 j v hj
    exact⟨m+1,e',by omega,by simpa using q2,q3⟩
   ·rcases List.mem_cons.1 he2 with rfl|he2
    ·intro e'
     have:=hr'.2 (e'.symm.trans hk')
     cases this
    ·exact g3 hn e2 he2
theorem jL.now {kt:TypeId} {kd:TypeDesc} {κ:Type} {ek:κ->Value} (hu:P.underlying kt=some kd) (inj:∀a b,ek a=ek b->a=b) (chk:∀e k w,(Instr.checkKey e 10000 kt (ek k)).run P w= .ok () w)
  (heq:∀a b,∃r,Instr.sameNow kd (ek a) (ek b)=some r/\(r=true↔ek a=ek b)) (bits:∀k,Instr.sameBits 10000 (ek k) (ek k)=true):jL P kt ek:=by
 refine⟨inj,chk,fun k es w h=>?_,bits⟩
 obtain⟨r,h1,h2,h3⟩:=o7 heq k es 0 h
 refine⟨r,by simp only[Instr.findKey,Sem.run_bind,run_underlying hu,Result.andThen_ok,h1,Sem.run_pure],fun i v hr=>?_,h3⟩
 obtain⟨m,e,rfl,q⟩:=h2 i v hr
 exact⟨e,by rw[Nat.zero_add];exact q.1,q.2⟩
theorem jL.ask {kt:TypeId} {kd:TypeDesc} {κ:Type} {ek:κ->Value} (hu:P.underlying kt=some kd) (inj:∀a b,ek a=ek b->a=b) (chk:∀e k w,(Instr.checkKey e 10000 kt (ek k)).run P w= .ok () w)
  (hno:∀a b,Instr.sameNow kd (ek a) (ek b)=none) (heq:∀a b w,∃r,(Op.equal kt (ek a) (ek b)).run P w= .ok r w/\(r=true↔ek a=ek b)) (bits:∀k,Instr.sameBits 10000 (ek k) (ek k)=true):jL P kt ek:=by
 refine⟨inj,chk,fun k es w h=>?_,bits⟩
 cases es with
 |nil=>exact⟨none,by simp only[Instr.findKey,Sem.run_bind,run_underlying hu,Result.andThen_ok,Instr.findNow,Sem.run_pure],fun _ _ h=>(by cases h),fun _ e he=>(by cases he)⟩
 |cons e es=>
  obtain⟨r,h1,h2,h3⟩:=li heq k w (e::es) 0 h
  have hf:Instr.findNow kd (ek k) (e::es) 0=none:=by
   obtain⟨k',hk'⟩:=h e List.mem_cons_self
   simp only[Instr.findNow,hk',hno]
  refine⟨r,by simp only[Instr.findKey,Sem.run_bind,run_underlying hu,Result.andThen_ok,hf];exact h1,fun i v hr=>?_,h3⟩
  obtain⟨m,e,rfl,q⟩:=h2 i v hr
  exact⟨e,by rw[Nat.zero_add];exact q.1,q.2⟩
end
end
section
section
variable {S F:ae} {ρ:aw} {M:ah} {w:World} {P:Program} {tt:TT}
theorem kO (vs:List Value):(bg vs).length=vs.length:=by simp[bg]
theorem ah.set_set (M:ah) (ℓ:Nat) (B B':bj):(M.set ℓ B).set ℓ B'=M.set ℓ B':=by
 funext x
 by_cases e:x=ℓ
 ·subst e;rw[ah.set_eq,ah.set_eq]
 ·rw[ah.set_ne _ _ e,ah.set_ne _ _ e,ah.set_ne _ _ e]
def uV:Value->AV
 | .agg vs=> .agg (bg vs.toList)
 |v=> .val v
theorem ba.vals (vs:List Value):ba S ρ vs (bg vs):=⟨(kO vs).symm,fun i u hu=>by
 obtain⟨v,hv,rfl⟩:=yu hu
 exact⟨v,hv, .p (.val v)⟩⟩
theorem E7 (v:Value):RV S ρ v (uV v):=by
 unfold uV
 split
 ·rename_i vs
  have:=RV.agg_mk (ba.vals (S:=S) (ρ:=ρ) vs.toList)
  simpa using this
 ·exact .p (.val v)
theorem xm {v:Value} (h:v.oneCell'=true):qE v=true:=by cases v<;>simp_all [qE,Value.oneCell']
theorem rg {v:Value} {cs:List AV} (h:allOne cs=true) (hv:ba S ρ v.cells.toList cs):bK (uV v)=some (bg v.cells.toList):=by
 have ho:=iL h hv
 cases v with
 |agg vs=>rfl
 |_=>
  have h1:=xm (ho _ (by simp[Value.cells];rfl))
  simp only[uV,bK,h1]
  rfl
theorem rh {cs:List AV} {vs:List Value} (h:allOne cs=true) (hv:ba S ρ vs cs):bZ (bg vs)=true:=by
 have ho:=iL h hv
 clear hv h
 induction vs with
 |nil=>rfl
 |cons v vs ih=>
  have h1:lS (.val v)=true:=xm (ho v List.mem_cons_self)
  show(match lS (.val v) with|true=>bZ (bg vs)|false=>false)=true
  rw[h1]
  exact ih fun x hx=>ho x (List.mem_cons_of_mem _ hx)
theorem lx:∀(vs:List Value) (M:ah) (K:List AV->ah->Prop),dp (bg vs) M K=K (bg vs) M
 |[],M,K=>rfl
 |v::vs,M,K=>by
  show dp (bg vs) M (fun us' M'=>K (.val v::us') M')=_
  rw[lx vs]
  rfl
theorem sF (l cs:List Value) (o:Nat):bg (l.take o++(cs++l.drop (o+cs.length)))=eO (bg l) o (bg cs):=by
 unfold eO bg
 simp only[List.map_append,List.map_take,List.map_drop,List.length_map]
theorem yC (hT:aW P tt=true) {t:TypeId} {K:ah->Prop} {us:List AV} {va vx:Value} (h:sB tt t us M K) (hM:az S F ρ M w) (hv:ba S ρ [va,vx] us):lW P S F ρ w (Instr.storeAt t va vx) K:=by
 unfold sB at h
 split at h
 ·rename_i ℓ j o x
  split at h
  ·rename_i rt g m hl
   obtain⟨y,ys,e,ha,hv⟩:=hv.cons_inv
   injection e with e e'
   subst e;subst e'
   obtain⟨y,ys,e,hx,_⟩:=hv.cons_inv
   injection e with e _
   subst e
   split at h
   ·rename_i cs i hcs ht
    obtain⟨hc,_⟩:=gy hcs hx
    have hcl:=hc.1
    split at h
    ·rename_i hsz hone hle
     have hle2:=Nat.le_of_ble_eq_true hle
     obtain⟨l,hlm,hg,hM1⟩:=hM.hdrVals hl
     have hjm:j<m:=by
      obtain⟨b,hb,hj,_⟩:=ha.rel_inv
      obtain⟨b',hb',hrow⟩:=hM1.blk ℓ _ (ah.set_eq _ _ _)
      rw[hb] at hb';cases hb'
      have:=hrow.1
      omega
     have hgj:=hg j hjm
     have hcl2:(bg vx.cells.toList).length=cs.length:=by rw[kO];exact hcl
     have h1:dQ tt t [.rel ℓ j o,uV vx] (M.set ℓ (.row rt [] bg l)) (fun M'=>M'=(M.set ℓ (.row rt [] bg l)).set ℓ (.row rt [] bg (l.set j ((l.getD j []).take o++(vx.cells.toList++(l.getD j []).drop (o+vx.cells.toList.length)))))):=by
      unfold dQ
      simp only[rg hone hc,ht,hcl2,hsz,lx,ah.set_eq,rh hone hc]
      have hle3:Nat.ble (o+cs.length) (bg (l.getD j [])).length=true:=by
       rw[kO,hgj.1];exact hle
      simp only[hle3]
      rw[eY]
      exact⟨_,sF _ _ _,rfl⟩
     obtain⟨M',S',ρ',w',hr,rfl,h3,h4,h5,h6⟩:=kM hT h1 hM1 (ba.cons ha (ba.cons (E7 vx) (ba.nil _ _)))
     have hM3:=h5.valsHdr (ah.set_eq _ _ _) (fun k=>match Nat.beq k j with|true=>eO (g j) o cs|false=>g k) (fun k hk=>by
      rw[List.length_set] at hk
      by_cases e:k=j
      ·subst e
       rw[Nat.beq_refl]
       have e1:(l.set k ((l.getD k []).take o++(vx.cells.toList++(l.getD k []).drop (o+vx.cells.toList.length)))).getD k []=(l.getD k []).take o++(vx.cells.toList++(l.getD k []).drop (o+vx.cells.toList.length)):=by
        rw[gD,List.getElem?_set_self hk];rfl
       rw[e1]
       have:=hgj.splice_ hc o
       unfold fj at this
       exact this.mono h3 h4
      ·have e2:Nat.beq k j=false:=by rw[Bool.eq_false_iff];exact fun hh=>e (Nat.eq_of_beq_eq_true hh)
       rw[e2]
       have e1:(l.set j ((l.getD j []).take o++(vx.cells.toList++(l.getD j []).drop (o+vx.cells.toList.length)))).getD k []=l.getD k []:=by
        rw[gD,List.getElem?_set_ne (fun h=>e h.symm),<-gD]
       rw[e1]
       exact(hg k (by omega)).mono h3 h4)
     rw[ah.set_set,ah.set_set,List.length_set,hlm] at hM3
     exact⟨_,S',ρ',w',hr,h,h3,h4,hM3,h6⟩
    ·exact h.elim
   ·exact h.elim
  ·exact kM hT h hM hv
 ·exact kM hT h hM hv
theorem sG (vs:List Value):lU [bg vs]=none:=by
 cases vs with
 |nil=>rfl
 |cons v vs=>
  cases vs with
  |nil=>rfl
  |cons _ _=>rfl
theorem DE (hT:aW P tt=true) {A:Prop} {t:TypeId} {len:Nat} {is:List Nat} {dst:Option Tmp} {K:AV->ah->Prop} {us:List AV} {vs:List Value} (h:FE A tt t len is us dst M K) (hM:az S F ρ M w) (hv:ba S ρ vs us)
  (hlen:is.length=vs.length) (hA:A->b8 P S F ρ w (Instr.buildSlice t len (is.zip vs).toArray) K):b8 P S F ρ w (Instr.buildSlice t len (is.zip vs).toArray) K:=by
 unfold FE at h
 split at h
 ·rename_i u
  split at h
  ·split at h
   ·rename_i d sz0 by0 e z0 cs ht hcs
    obtain⟨v,vs',rfl,hx,hv'⟩:=hv.cons_inv
    cases hv'.nil_inv
    obtain⟨hc,_⟩:=gy hcs hx
    split at h
    ·rename_i i hi hd
     split at h
     ·rename_i h1 h2 h3 h4 h5 h6
      have e1:=Nat.eq_of_beq_eq_true h3
      subst e1
      have hsz:=Nat.le_of_ble_eq_true h4
      have hcl:(bg v.cells.toList).length=i.size:=by rw[kO,hc.1];exact Nat.eq_of_beq_eq_true h5
      have hb:eh tt t 1 is [uV v] (some d) M (fun u M'=>u= .row d 1 i.size/\M'=M.set d (.row e [] bg [v.cells.toList])):=by
       unfold eh
       have a1:Nat.ble (1*i.size) 16777216=true:=Nat.ble_eq_true_of_le (by omega)
       have a2:eA i.size [uV v]=some [bg v.cells.toList]:=by
        simp only[eA,rg h6 hc]
        rw[hcl,Nat.beq_refl]
       have a3:iM [bg v.cells.toList]=true:=by
        show(match bZ (bg v.cells.toList) with|true=>true|false=>false)=true
        rw[rh h6 hc]
       simp only[ht,hi,h1,h2,a1,a2,iz,lx,hd,a3,sG]
       rw[gK]
       exact⟨_,_,_,[v.cells.toList],lT _,by first|rfl|trivial,by first|rfl|trivial⟩
      obtain⟨v1,u1,M',S',ρ',w',hr,⟨rfl,rfl⟩,h7,h8,h9,h10,h11⟩:=m6 (P:=P) hT hb hM (ba.cons (E7 v) (ba.nil S ρ)) hlen
      have hM3:=h9.valsHdr (ah.set_eq _ _ _) (fun _=>cs) (fun k hk=>by
       have:k=0:=by simpa using hk
       subst this
       exact hc.mono h7 h8)
      rw[ah.set_set] at hM3
      exact⟨v1,_,_,S',ρ',w',hr,h,h7,h8,hM3,h10,h11⟩
     ·exact h.elim
    ·exact h.elim
   ·exact h.elim
  ·exact hA h
 ·exact hA h
theorem az.grow (h:az S F ρ M w) (o:Obj):az S F ρ M (w.alloc o):=
 ⟨ae.inW_alloc h.sw _,ae.inW_alloc h.fw _,h.sf,h.dom,fun ℓ B hB=>let ⟨b,hb,hr⟩:=h.blk ℓ B hB;⟨b,hb,hr.keep (ae.le_refl _) (aw.le_refl _) fun hl=>⟨gz _ _ _ (hr.lt hl),rfl⟩⟩,h.inj,h.gl⟩
theorem FM (hT:aW P tt=true) {A:Prop} {t:TypeId} {K:AV->ah->Prop} {us:List AV} {vl vc:Value} (h:IR A tt t us M K) (hM:az S F ρ M w) (hv:ba S ρ [vl,vc] us)
  (hA:A->b8 P S F ρ w (Instr.makeSlice t vl vc) K):b8 P S F ρ w (Instr.makeSlice t vl vc) K:=by
 unfold IR at h
 split at h
 ·split at h
  ·rename_i n c a1 a2 e a3 ht
   split at h
   ·rename_i i hi
    rw[bA] at h
    obtain⟨⟨rfl,rfl⟩,hK⟩:=h
    obtain⟨y,ys,e1,hn,hv⟩:=hv.cons_inv
    injection e1 with e1 e2;subst e1;subst e2
    obtain⟨y,ys,e1,hc,_⟩:=hv.cons_inv
    injection e1 with e1 _;subst e1
    cases hn.int_inv;cases hc.int_inv
    have hte:=TOk.slice hT ht
    obtain⟨x,z,hx,hxs,hxb,hz,hzc,_,hzl⟩:=TOk.info hT hi
    have w0:IntKind.i64.wrap 0=0:=j7 (by omega)
    have hsz:∀w,(Go.sizeOf e).run P w= .ok i.size w:=fun w=>TOk.size hT hi w
    refine⟨.slice (some ⟨w.heap.size,0,none⟩) 0 0,_,M,S,ρ,w.alloc (.cells #[] e),?_,hK _,ae.le_refl _,aw.le_refl _,hM.grow _, .p (.val _),bX.alloc_cells _ _ _⟩
    simp only[Instr.makeSlice,Sem.run_bind,run_underlying hte,Result.andThen_ok,asInt,asIntOf,Sem.run_pure,typeInfo,run_program,hx,hxb,w0,Sem.run_ite]
    have e9:∀f:Nat->Value,Array.map f (Array.range 0)=#[]:=fun f=>Array.eq_empty_of_size_eq_zero (by simp)
    simp[run_askRoom,hsz,newRow,run_newObj]
    rw[e9]
   ·exact h.elim
  ·exact h.elim
 ·exact hA h
theorem DF (hT:aW P tt=true) {A:Prop} {ts:List TypeId} {ty:TypeId} {dst:Option Tmp} {K:AV->ah->Prop} {us:List AV} {vs:List Value} (h:FD A tt ts us dst M K) (hM:az S F ρ M w) (hv:ba S ρ vs us)
  (hA:A->b8 P S F ρ w (Builtin.append_ ts.toArray ty vs.toArray) K):b8 P S F ρ w (Builtin.append_ ts.toArray ty vs.toArray) K:=by
 unfold FD at h
 split at h
 ·rename_i s ℓ' n' sz'
  split at h
  ·rename_i e' g' m' hl'
   unfold G9 at h
   split at h
   ·rename_i d t t'
    split at h
    ·rename_i sz0 by0 e z0 ht ht' hd
     split at h
     ·rename_i i hi
      split at h
      ·rename_i nb hbm hsz hem
       rw[Bool.and_eq_true] at hem
       have hem1:=Nat.eq_of_beq_eq_true hem.1
       subst hem1
       have hm0:0<m':=by have:=hem.2;simp[Nat.blt] at this;omega
       have hszq:=Nat.eq_of_beq_eq_true hsz
       obtain⟨l',hlm',hg',hM1⟩:=hM.hdrVals hl'
       have hv0:=hv
       obtain⟨v0,vs1,rfl,hs,hv1⟩:=hv.cons_inv
       obtain⟨v1,vs2,rfl,hx,hv2⟩:=hv1.cons_inv
       cases hv2.nil_inv
       have hdl':d≠ℓ':=fun e=>by rw[e,hl'] at hd;cases hd
       have hlen0:Nat.beq (bg (l'.getD 0 [])).length i.size=true:=by
        obtain⟨b,hb,_,hbs,_⟩:=hx.row_inv
        obtain⟨b',hb',hrow⟩:=hM1.blk ℓ' _ (ah.set_eq _ _ _)
        rw[hb] at hb';cases hb'
        have h0:0<l'.length:=by omega
        have:=(hrow.2.1 _ (List.getElem_mem h0)).1
        have e1:l'.getD 0 []=l'[0]:=by rw[gD,gL h0];rfl
        rw[e1,this,hbs,hszq,Nat.beq_refl]
       split at h
       ·rw[bA] at h
        obtain⟨hby,hK⟩:=h
        have hd1:(M.set ℓ' (.row e' [] bg l')) d=none:=by rw[ah.set_ne _ _ hdl'];exact hd
        have hb:fk tt [t,t'] [.nilsl, .row ℓ' n' sz'] (some d) (M.set ℓ' (.row e' [] bg l')) (fun u M'=>u= .row d m' i.size/\M'=(M.set ℓ' (.row e' [] bg l')).set d (.row e' [] bg l')):=by
         unfold fk
         simp only[ht,ht',hd1,hi,hbm,sA,ah.set_eq,hlen0]
         rw[bA,hlm']
         rw[hbm] at hby
         exact⟨hby,by first|rfl|trivial,by first|rfl|trivial⟩
        obtain⟨w1,u1,M',S',ρ',w',hr,⟨rfl,rfl⟩,h7,h8,h9,h10,h11⟩:=lw (P:=P) (ty:=ty) hT hb hM1 hv0
        have hM2:=h9.valsHdr (ah.set_eq _ _ _) g' (fun k hk=>(hg' k (by omega)).mono h7 h8)
        have hM3:=hM2.valsHdr (ℓ:=ℓ') (t:=e') (l:=l') (by rw[ah.set_ne _ _ (fun e=>hdl' e.symm),ah.set_ne _ _ (fun e=>hdl' e.symm),ah.set_eq]) g' (fun k hk=>(hg' k (by omega)).mono h7 h8)
        have hE:(((M.set ℓ' (.row e' [] bg l')).set d (.row e' [] bg l')).set d (.hdr e' g' l'.length)).set ℓ' (.hdr e' g' l'.length)=M.set d (.hdr e' g' m'):=by
         rw[hlm',ah.set_set,ah.set_comm _ _ _ hdl',ah.set_set]
         funext x
         by_cases e1:x=d
         ·subst e1;rw[ah.set_eq,ah.set_eq]
         ·rw[ah.set_ne _ _ e1,ah.set_ne _ _ e1]
          by_cases e2:x=ℓ'
          ·subst e2;rw[ah.set_eq,hl']
          ·rw[ah.set_ne _ _ e2]
        rw[hE] at hM3
        exact⟨w1,_,_,S',ρ',w',hr,hK,h7,h8,hM3,h10,h11⟩
       ·rename_i ℓ n sz
        split at h
        ·rename_i e2 g m hl hsz2 hne
         split at h
         ·rename_i he2
          have he2:=Nat.eq_of_beq_eq_true he2
          subst he2
          rw[bA] at h
          obtain⟨hby,hK⟩:=h
          have hll:ℓ≠ℓ':=fun e=>by rw[e,Nat.beq_refl] at hne;cases hne
          have hdl:d≠ℓ:=fun e=>by rw[e,hl] at hd;cases hd
          obtain⟨l,hlm,hg,hM2⟩:=hM1.hdrVals (ℓ:=ℓ) (t:=e2) (g:=g) (m:=m) (by rw[ah.set_ne _ _ hll];exact hl)
          have hd1:((M.set ℓ' (.row e2 [] bg l')).set ℓ (.row e2 [] bg l)) d=none:=by rw[ah.set_ne _ _ hdl,ah.set_ne _ _ hdl'];exact hd
          have hl1:((M.set ℓ' (.row e2 [] bg l')).set ℓ (.row e2 [] bg l)) ℓ'=some (.row e2 [] bg l'):=by rw[ah.set_ne _ _ (fun e=>hll e.symm),ah.set_eq]
          have hb:fk tt [t,t'] [.row ℓ n sz, .row ℓ' n' sz'] (some d) ((M.set ℓ' (.row e2 [] bg l')).set ℓ (.row e2 [] bg l)) (fun u M'=>u= .row d (n+m') i.size/\M'=(((M.set ℓ' (.row e2 [] bg l')).set ℓ (.row e2 [] bg l)).set ℓ .dead).set d (.row e2 [] bg (l++l'))):=by
           unfold fk
           simp only[ht,ht',hd1,hi,hbm,sA,hl1,hlen0,ah.set_eq,hsz2,Nat.beq_refl,hne,Bool.not_false]
           rw[gM,hlm,hlm']
           rw[hbm] at hby
           exact⟨hby,l',rfl,by first|rfl|trivial,by first|rfl|trivial⟩
          obtain⟨w1,u1,M',S',ρ',w',hr,⟨rfl,rfl⟩,h7,h8,h9,h10,h11⟩:=lw (P:=P) (ty:=ty) hT hb hM2 hv0
          have hM3:=h9.valsHdr (ah.set_eq _ _ _) (fun k=>match Nat.blt k m with|true=>g k|false=>g' (k-m)) (fun k hk=>by
           rw[List.length_append] at hk
           by_cases hkm:k<m
           ·have e1:Nat.blt k m=true:=by simp[Nat.blt];omega
            rw[e1]
            have e3:(l++l').getD k []=l.getD k []:=by rw[gD,List.getElem?_append_left (by omega),<-gD]
            rw[e3]
            exact(hg k hkm).mono h7 h8
           ·have e1:Nat.blt k m=false:=by rw[Bool.eq_false_iff];intro hh;exact hkm (by simp[Nat.blt] at hh;omega)
            rw[e1]
            have e3:(l++l').getD k []=l'.getD (k-m) []:=by rw[gD,List.getElem?_append_right (by omega),<-gD,hlm]
            rw[e3]
            exact(hg' (k-m) (by omega)).mono h7 h8)
          have hM4:=hM3.valsHdr (ℓ:=ℓ') (t:=e2) (l:=l') (by rw[ah.set_ne _ _ (fun e=>hdl' e.symm),ah.set_ne _ _ (fun e=>hdl' e.symm),ah.set_ne _ _ (fun e=>hll e.symm)];exact hl1) g' (fun k hk=>(hg' k (by omega)).mono h7 h8)
          have hE:((((((M.set ℓ' (.row e2 [] bg l')).set ℓ (.row e2 [] bg l)).set ℓ .dead).set d (.row e2 [] bg (l++l'))).set d (.hdr e2 (fun k=>match Nat.blt k m with|true=>g k|false=>g' (k-m)) (l++l').length)).set ℓ' (.hdr e2 g' l'.length))=(M.set ℓ .dead).set d (.hdr e2 (fun k=>match Nat.blt k m with|true=>g k|false=>g' (k-m)) (m+m')):=by
           rw[List.length_append,hlm,hlm',ah.set_set,ah.set_set]
           funext x
           by_cases e1:x=ℓ'
           ·subst e1
            rw[ah.set_eq,ah.set_ne _ _ (fun e=>hdl' e.symm),ah.set_ne _ _ (fun e=>hll e.symm),hl']
           ·rw[ah.set_ne _ _ e1]
            by_cases e3:x=d
            ·subst e3;rw[ah.set_eq,ah.set_eq]
            ·rw[ah.set_ne _ _ e3,ah.set_ne _ _ e3]
             by_cases e4:x=ℓ
             ·subst e4;rw[ah.set_eq,ah.set_eq]
             ·rw[ah.set_ne _ _ e4,ah.set_ne _ _ e4,ah.set_ne _ _ e1]
          rw[hE] at hM4
          exact⟨w1,_,_,S',ρ',w',hr,hK,h7,h8,hM4,h10,h11⟩
         ·exact h.elim
        ·exact h.elim
       ·exact h.elim
      ·exact h.elim
     ·exact h.elim
    ·exact h.elim
   ·exact h.elim
  ·exact hA h
 ·exact hA h
end
end
end Go.Proofs.YtblcpnmnibcbbaaGreatDoor
