import Derived.Test.YtokjgegkhlkopaaGreatDoorLbX
set_option linter.unusedVariables false
set_option linter.unusedSimpArgs false
namespace Go.Proofs.YtokjgegkhlkopaaGreatDoor
section
set_option maxRecDepth 100000
set_option maxHeartbeats 16000000
def IC (_:Unit):List AV:=[.nilsl]
def Ls:Value:=.slice none 0 0
def OY (k:Nat):Nat:=20000+k
def yK (B:aX) (n:Nat) (pl:List Int) (V:List Bool) (W:Nat->Nat) (a:List (Nat×Nat)):List (Nat×aX):=
 [(7001,B),(7006,bG pl),(24,yu V),(18, .hdr 24 (fun k=>[.row (sQ 20000 a k) (W k) 1]) n)]
def uG (B:aX) (n:Nat) (pl:List Int) (V:List Bool) (c:Nat->List Int) (a:List (Nat×Nat)):ai:=c0 (yK B n pl V (fun k=>(c k).length) a) (q9 3 (zi 20000 n a) c)
def kW:b8:=[(7001, .old 7001),(7006, .old 7006),(24, .old 24),(18, .old 18)]
def yB (n:Nat) (a:List (Nat×Nat)):Prop:=Lz 20000 n a/\∀q∈a,q.1=301
theorem Bz (n:Nat):yB n []:=⟨trivial,fun q hq=>by cases hq⟩
theorem Na {n i:Nat} (h:i<n):yB n [(301,i)]:=⟨⟨by omega,h,(fun q hq=>by cases hq),trivial⟩,fun q hq=>by
 rcases List.mem_cons.1 hq with rfl|hq
 ·rfl
 ·cases hq⟩
theorem yB.key {n x k:Nat} {a:List (Nat×Nat)} (h:yB n a) (hx:zi 20000 n a x=some k):x=301\/20000<=x:=by
 rcases Hb hx with h1|⟨q,h1,h2⟩
 ·exact .inr h1
 ·exact .inl (by rw[<-h2];exact h.2 q h1)
theorem yB.lab {n:Nat} {a:List (Nat×Nat)} (h:yB n a) (k:Nat):sQ 20000 a k=301\/20000<=sQ 20000 a k:=by
 rcases JU (k:=k) h.1 with h1|⟨q,h1,h2,_⟩
 ·omega
 ·exact .inl (by rw[<-h2];exact h.2 q h1)
theorem Gr {L:List (Nat×aX)} {x:Nat} (h:∀q∈L,q.1≠x):ai.ofL L x=none:=by
 cases hf:ai.ofL L x with
 |none=>rfl
 |some y=>exact absurd rfl (h _ (eO hf))
theorem Jw {lm:b8} {x:Nat} (h:∀q∈lm,q.1≠x):aA lm x=none:=by
 cases hf:aA lm x with
 |none=>rfl
 |some y=>exact absurd rfl (h _ (cN hf))
theorem BA {B:aX} {n:Nat} {pl:List Int} {V:List Bool} {W:Nat->Nat} {a:List (Nat×Nat)} {x:Nat} (h:x=301\/20000<=x):∀q∈yK B n pl V W a,q.1≠x:=by
 intro q hq
 unfold yK at hq
 simp only[List.mem_cons,List.not_mem_nil,or_false] at hq
 rcases hq with rfl|rfl|rfl|rfl<;>dsimp only<;>omega
theorem yC {x:Nat} (h:x=301\/20000<=x):∀q∈kW,q.1≠x:=by
 intro q hq
 unfold kW at hq
 simp only[List.mem_cons,List.not_mem_nil,or_false] at hq
 rcases hq with rfl|rfl|rfl|rfl<;>dsimp only<;>omega
theorem z7 {B:aX} {n:Nat} {pl:List Int} {V:List Bool} {c:Nat->List Int} {a:List (Nat×Nat)} (ha:yB n a) {k:Nat} (hk:k<n):uG B n pl V c a (sQ 20000 a k)=some (.row 3 0 aD (c k)):=by
 unfold uG c0
 rw[Gr (BA (ha.lab k))]
 dsimp only
 unfold q9
 rw[zj ha.1 hk]
section
variable {M:ai}
theorem Dc (lm:b8) (L:List (Nat×aX)) (n:Nat) (hd:Nat) (t0 ti:TypeId) (W:Nat->Nat) (m:Nat) (c:Nat->List Int) (σ:Nat->Option Nat) (lab lab':Nat->Nat)
  (hs:(gX lm L&&f5 L lm)=true) (hm:zg lm n M L) (hL:∀ℓ t g m',(ℓ,aX.hdr t g m')∈L->ℓ=hd/\t=t0/\m'=m/\∀k,k<m->g k=[.row (lab' k) (W k) 1])
  (h4:aA lm hd=some (.old hd)) (hg:∃g,M hd=some (.hdr t0 g m)/\∀k,k<m->g k=[.row (lab k) (W k) 1]) (hrow:∀k,k<m->M (lab k)=some (.row ti 0 aD (c k)))
  (hσ1:∀x k,σ x=some k->k<m/\aA lm x=none/\ai.ofL L x=none) (hσ2:∀x y k,σ x=some k->σ y=some k->x=y) (hσ3:∀k,k<m->σ (lab' k)=some k)
  (hlab:∀k k',k<m->k'<m->lab k=lab k'->k=k') (hfar:∀k,k<m->∀y,aA lm y≠some (.old (lab k))):
  oT (sV lm fun x=>(σ x).map lab) M (c0 L (q9 ti σ c)):=by
 refine zh lm L _ _ n hs hm (fun ℓ t g m' hmem=>?_) ⟨fun x B' hB=>?_,fun x o hx=>?_,fun x y o hx hy _ _=>?_,fun x o k hx _ hk=>?_⟩
 ·obtain⟨rfl,rfl,rfl,hgg⟩:=hL ℓ t g m' hmem
  unfold G'
  rw[h4]
  obtain⟨g0,h1,h2⟩:=hg
  refine⟨g0,h1,fun i hi=>?_⟩
  rw[h2 i hi,hgg i hi]
  refine nA.one (tS.row (Az (hσ1 _ _ (hσ3 i hi)).2.1 ?_))
  rw[hσ3 i hi];rfl
 ·unfold q9 at hB
  split at hB
  ·rename_i k hk
   cases hB
   obtain⟨h1,h2,h3⟩:=hσ1 x k hk
   refine⟨h2,h3,lab k,_,by rw[hk];rfl,hrow k h1, .inr ⟨rfl,rfl⟩⟩
  ·cases hB
 ·unfold q9
  cases hσx:σ x with
  |none=>rw[hσx] at hx;cases hx
  |some k=>simp
 ·cases h1:σ x with
  |none=>rw[h1] at hx;cases hx
  |some k=>
   cases h2:σ y with
   |none=>rw[h2] at hy;cases hy
   |some k'=>
    rw[h1] at hx
    rw[h2] at hy
    simp only[Option.map_some,Option.some.injEq] at hx hy
    have:=hlab k k' (hσ1 x k h1).1 (hσ1 y k' h2).1 (hx.trans hy.symm)
    subst this
    exact hσ2 x y k h1 h2
 ·cases h1:σ x with
  |none=>rw[h1] at hx;cases hx
  |some i=>
   rw[h1] at hx
   simp only[Option.map_some,Option.some.injEq] at hx
   subst hx
   exact absurd hk (hfar i (hσ1 x i h1).1 k)
theorem Gs {D:List Nat} {fr fr':List AV} {B:aX} {n:Nat} {pl:List Int} {V:List Bool} {c:Nat->List Int} {a:List (Nat×Nat)} (lab:Nat->Nat) (ha:yB n a) (hB:∃t cs,B= .box t cs) (hm:zg kW 400 M (yK B n pl V (fun k=>(c k).length) a))
  (hg:∃g,M 18=some (.hdr 24 g n)/\∀k,k<n->g k=[.row (lab k) (c k).length 1]) (hrow:∀k,k<n->M (lab k)=some (.row 3 0 aD (c k))) (hlab:∀k k',k<n->k'<n->lab k=lab k'->k=k')
  (hfar:∀k,k<n->lab k≠7001/\lab k≠7006/\lab k≠24/\lab k≠18) (hD:∀d∈D,d=7001\/d=7006) (hf:ge kW 400 fr fr'):aM D fr M fr' (uG B n pl V c a):=by
 obtain⟨tB,csB,rfl⟩:=hB
 refine aM.gen _ (Dc kW (yK (.box tB csB) n pl V (fun k=>(c k).length) a) 400 18 24 3 (fun k=>(c k).length) n c (zi 20000 n a) lab (sQ 20000 a) rfl hm (fun ℓ t g m' hmem=>?_) rfl hg hrow (fun x k hx=>?_) (fun x y k hx hy=>?_) (fun k hk=>zj ha.1 hk) hlab (fun k hk y hy=>?_)) (fun d hd=>?_) (nA.by_ 400 (fun k y h=>l8 k y h) hf)
 ·simp only[yK,List.mem_cons,Prod.mk.injEq,List.not_mem_nil,or_false] at hmem
  rcases hmem with ⟨_,h⟩|⟨_,h⟩|⟨_,h⟩|⟨rfl,h⟩
  ·cases h
  ·cases h
  ·cases h
  ·injection h with h1 h2 h3
   subst h1;subst h2;subst h3
   exact⟨rfl,rfl,rfl,fun k _=>rfl⟩
 ·have h1:=nE ha.1 hx
  have h2:=ha.key hx
  exact⟨h1.1,Jw (yC h2),Gr (BA h2)⟩
 ·rw[<-(nE ha.1 hx).2,(nE ha.1 hy).2]
 ·obtain⟨a1,a2,a3,a4⟩:=hfar k hk
  have hmem:=cN hy
  unfold kW at hmem
  simp only[List.mem_cons,Prod.mk.injEq,List.not_mem_nil,or_false,LM.old.injEq] at hmem
  omega
 ·rcases hD d hd with rfl|rfl
  ·exact l8 _ _ rfl
  ·exact l8 _ _ rfl
def IE (n:Nat) (x:Nat):Option LM:=match aA kW x with
 |some y=>some y
 |none=>match zi 20000 n [] x with
  |some _=>some (.nil 1)
  |none=>none
theorem pk {n:Nat}:∀k y,aA kW k=some y->IE n k=some y:=fun k y e=>by unfold IE;rw[e]
theorem BB {n k:Nat} (hk:k<n):IE n (20000+k)=some (.nil 1):=by
 unfold IE
 rw[Jw (yC (.inr (by omega)))]
 dsimp only
 have:zi 20000 n [] (20000+k)=some k:=zj (a:=[]) trivial hk
 rw[this]
theorem IG {S F:ag} {ρ ρ':aw} {w:World} {b:dU} {n:Nat} {t:TypeId} (hρ:∀k,k<n->ρ' (20000+k)=some ⟨0,0,0,1,true⟩) (h:da S F ρ w b (.row t () IC (List.replicate n ()))):
  da S F ρ' w b (.hdr t (fun k=>[.row (sQ 20000 [] k) ([]:List Int).length 1]) n):=by
 obtain⟨hlen,hsz,hcase⟩:=h
 refine⟨List.replicate n [Ls],by simp,fun i hi=>?_,by simpa using hlen,fun a ha=>?_,?_⟩
 ·have e:(List.replicate n [Ls]).getD i []=[Ls]:=by
   rw[gD,List.getElem?_replicate,if_pos hi];rfl
  rw[e]
  exact be.cons (.row (20000+i) 0 1 ⟨0,0,0,1,true⟩ (hρ i hi) rfl rfl (fun _=>rfl)) (be.nil _ _)
 ·obtain⟨h1,rfl⟩:=List.mem_replicate.1 ha
  have:=hsz () (List.mem_replicate.2 ⟨h1,rfl⟩)
  exact⟨this.1,rfl⟩
 ·rcases hcase with ⟨h1,h2,h3⟩|⟨h1,h2,vs,h3,h4,h5,h6,h7⟩
  ·have hn:n=0:=by simpa using h2
   subst hn
   exact .inl ⟨h1,rfl,h3⟩
  ·refine .inr ⟨h1,by simpa using h2,vs,h3,h4,fun i a j u hi hu=>?_,h6,h7⟩
   rw[List.getElem?_replicate] at hi
   split at hi
   ·rename_i hin
    cases hi
    cases j with
    |succ j=>simp[bj] at hu
    |zero=>
     obtain⟨v,hv,hr⟩:=h5 i () 0 .nilsl (by rw[List.getElem?_replicate,if_pos hin]) rfl
     cases hr
     simp[bj] at hu
     subst hu
     exact⟨_,hv, .val _⟩
   ·cases hi
theorem Gt {D:List Nat} {fr fr':List AV} {B:aX} {n:Nat} {pl:List Int} {V:List Bool} (hB:∃t cs,B= .box t cs) (hs:(gX kW (yK B n pl V (fun _=>0) [])&&f5 (yK B n pl V (fun _=>0) []) kW)=true) (hm:zg kW 400 M (yK B n pl V (fun _=>0) []))
  (hh:M 18=some (.row 24 () IC (List.replicate n ()))) (hD:∀d∈D,d=7001\/d=7006) (hf:ge kW 400 fr fr'):aM D fr M fr' (uG B n pl V (fun _=>[]) []):=by
 obtain⟨tB,csB,rfl⟩:=hB
 rw[Bool.and_eq_true] at hs
 have sg:∀{x k},zi 20000 n [] x=some k->k<n/\20000<=x/\x=20000+k:=fun{x k} hx=>by
  have h1:=nE (a:=[]) trivial hx
  have e:20000+k=x:=h1.2
  omega
 refine aM.gen (IE n) ⟨fun x B' hB'=>?_,fun x y hy=>?_,fun u v ℓ hu hv h1 h2=>?_⟩ (fun d hd=>?_) (nA.by_ 400 pk hf)
 ·unfold uG c0 at hB'
  cases hL:ai.ofL (yK (.box tB csB) n pl V (fun k=>((fun _=>[]) k:List Int).length) []) x with
  |some C=>
   rw[hL] at hB'
   cases hB'
   have hmem:=eO hL
   rcases nB hm x B' hmem with ⟨t,g,m,rfl⟩|h3
   ·simp only[yK,List.mem_cons,Prod.mk.injEq,List.not_mem_nil,or_false] at hmem
    rcases hmem with ⟨_,h⟩|⟨_,h⟩|⟨_,h⟩|⟨rfl,h⟩
    ·cases h
    ·cases h
    ·cases h
    ·injection h with h1 h2 h3
     subst h1;subst h2;subst h3
     unfold nz
     rw[show IE _ 18=some (.old 18) from pk _ _ rfl]
     refine⟨_,hh, .inr ⟨fun _ hl=>hl,fun S F ρ w bb hr=>IG (fun k hk=>?_) hr⟩⟩
     unfold mw
     rw[BB hk]
   ·unfold nz
    cases hf2:aA kW x with
    |none=>rw[hf2] at h3;exact h3.elim
    |some y=>
     rw[pk x y hf2]
     rw[hf2] at h3
     cases y with
     |old ℓ=>exact tT pk h3
     |nil sz=>
      simp only at h3
      split at h3
      ·rename_i t α d enc l
       subst h3
       exact .inl ⟨_,_,_,_,rfl⟩
      ·exact h3.elim
  |none=>
   rw[hL] at hB'
   dsimp only at hB'
   unfold q9 at hB'
   split at hB'
   ·rename_i k hk
    cases hB'
    obtain⟨k1,k2,rfl⟩:=sg hk
    unfold nz
    rw[BB k1]
    exact .inl ⟨_,_,_,_,rfl⟩
   ·cases hB'
 ·unfold uG c0
  cases hL:ai.ofL (yK (.box tB csB) n pl V (fun k=>((fun _=>[]) k:List Int).length) []) x with
  |some C=>simp
  |none=>
   dsimp only
   unfold IE at hy
   cases hf2:aA kW x with
   |some z=>
    have:=List.all_eq_true.1 hs.1 _ (cN hf2)
    dsimp only at this
    have hL2:ai.ofL (yK (.box tB csB) n pl V (fun _=>0) []) x=none:=hL
    rw[hL2] at this;cases this
   |none=>
    rw[hf2] at hy
    dsimp only at hy
    unfold q9
    cases hs2:zi 20000 n [] x with
    |none=>rw[hs2] at hy;cases hy
    |some k=>simp
 ·have src:∀z,IE n z=some (.old ℓ)->aA kW z=some (.old ℓ):=by
   intro z hz
   unfold IE at hz
   cases hf2:aA kW z with
   |some y=>rw[hf2] at hz;exact hz
   |none=>
    rw[hf2] at hz
    dsimp only at hz
    cases hs2:zi 20000 n [] z with
    |none=>rw[hs2] at hz;cases hz
    |some k=>rw[hs2] at hz;cases hz
  have dd:∀z,uG (.box tB csB) n pl V (fun _=>[]) [] z≠some .dead->ai.ofL (yK (.box tB csB) n pl V (fun _=>0) []) z≠some .dead:=by
   intro z hz e
   refine hz ?_
   unfold uG c0
   rw[show ai.ofL (yK (.box tB csB) n pl V (fun k=>((fun _=>[]) k:List Int).length) []) z=some .dead from e]
  exact AA hs.2 (src _ hu) (src _ hv) (dd _ h1) (dd _ h2)
 ·rcases hD d hd with rfl|rfl
  ·exact pk _ _ rfl
  ·exact pk _ _ rfl
variable {S F:ag} {ρ:aw} {w:World}
theorem wd:∀{ls:List Nat} {x:Nat},x∈ls->Dn ls x=true
 |k::r,x,h=>by
  rw[Dn]
  split
  ·rfl
  ·rename_i hb
   rcases List.mem_cons.1 h with rfl|h
   ·rw[Nat.beq_refl] at hb;cases hb
   ·exact wd h
theorem Gu:∀{ls:List Nat} {x:Nat},(∀k∈ls,k≠x)->Dn ls x=false
 |[],_,_=>rfl
 |k::r,x,h=>by
  rw[Dn,wZ (h k List.mem_cons_self)]
  exact Gu fun q hq=>h q (List.mem_cons_of_mem _ hq)
theorem IH (hM:ax S F ρ M w) (ls:List Nat) {n sz hd:Nat} {t0 ti:TypeId} {g:Nat->List AV} {bb:List (List Int)} {lab:Nat->Nat} (hl:bS M ls hd=some (.hdr t0 g bb.length)) (hg:∀k,k<bb.length->g k=[.row (lab k) (bb.getD k []).length 1])
  (hrow:∀k,k<bb.length->bS M ls (lab k)=some (.row ti 0 aD (bb.getD k []))) {v:Value} (h:RV S ρ v (.row hd n sz)):RP (bO S ρ (bS M ls) w) v (.sl [] cU bb):=by
 obtain⟨b,hb,hn,hs,hz,rfl⟩:=h.row_inv
 obtain⟨b',hb',l,hlm,hgv,hlen,hszs,hcase⟩:=hM.blk _ _ (gw hl).1
 rw[hb] at hb';cases hb'
 rcases hcase with ⟨hnil,rfl,hcap⟩|⟨hnil,hcap,vs,hheap,hsize,hcell,hS,hF⟩
 ·have hc0:bb=[]:=List.eq_nil_of_length_eq_zero (by simpa using hlm.symm)
  subst hc0
  have hl0:b.len=0:=by simpa using hlen
  have e:b.hdr= .slice none ([]:List (List Int)).length 0:=by simp[dU.hdr,hnil,hl0,hcap]
  rw[e]
  exact .sl [] cU [] none 0 0 (fun _ _=>undef) (by simp) (by simp) (by simp) (by simp) (by simp) (by simp)
 ·have hlc:bb.length=l.length:=by omega
  have e:b.hdr= .slice (some ⟨b.blk,0,none⟩) bb.length b.cap:=by simp[dU.hdr,hnil,hlen,hlc]
  rw[e]
  have hone:∀i,i<bb.length->∃x,l.getD i []=[x]/\RV S ρ x (.row (lab i) (bb.getD i []).length 1):=by
   intro i hi
   have h1:=hgv i hi
   rw[hg i hi] at h1
   obtain⟨x,xs,e1,h2,h3⟩:=h1.cons_inv
   rw[h3.nil_inv] at e1
   exact⟨x,e1,h2⟩
  have hget:∀i (hi:i<l.length),l.getD i []=l[i]:=fun i hi=>by
   rw[gD,gL hi];rfl
  have hbs:∀i,i<bb.length->b.sz=1:=by
   intro i hi
   obtain⟨x,hx,_⟩:=hone i hi
   have:=(hszs _ (List.getElem_mem (show i<l.length by omega))).1
   rw[<-hget i (by omega),hx] at this
   simpa[bj] using this.symm
  have hl1:bO S ρ (bS M ls) w b.blk=some (.cells vs t0 (0,0)):=by rw[sE hl hb rfl hnil];exact hheap
  have hval:∀i,i<bb.length->∃x,vs[i]? =some x/\RV S ρ x (.row (lab i) (bb.getD i []).length 1):=by
   intro i hi
   obtain⟨x,hx,hr⟩:=hone i hi
   have e2:l[i]? =some [x]:=by
    rw[<-hx,hget i (by omega),gL (by omega)]
   obtain⟨v,hv,hv2⟩:=hcell i [x] 0 (.val x) e2 rfl
   cases hv2
   rw[hbs i hi] at hv
   exact⟨x,by simpa using hv,hr⟩
  refine .sl [] cU bb (some ⟨b.blk,0,none⟩) b.cap 1 (fun i j=>vs.getD (i*1+j) undef) (by omega) (fun a _=>rfl) (fun a _=>rfl) (fun i j hi hj=>⟨_,rfl,?_⟩) (by simp) (fun i a j u hi hu=>?_)
  ·obtain⟨x,hx,_⟩:=hval i hi
   rw[Addr.add_mk]
   simp only[ag.cell,hl1]
   obtain rfl:j=0:=by omega
   simp[hx]
  ·have hil:=(List.getElem?_eq_some_iff.1 hi).1
   have ha:a=bb.getD i []:=by
    rw[gD,hi];rfl
   obtain⟨x,hx,hr⟩:=hval i hil
   have hj2:j<1:=by
    have:=(List.getElem?_eq_some_iff.1 hu).1
    simpa[cU] using this
   obtain rfl:j=0:=by omega
   simp[cU] at hu
   subst hu
   have e3:vs.getD (i*1+0) undef=x:=by simp[hx]
   rw[e3,ha]
   exact pg hM ls hr (hrow i hil)
def N6 (bb:List (List Int)):AV->AV
 |.row ℓ n sz=>match Nat.beq ℓ 18 with
  |true=>.sl [] cU bb
  |false=>.row ℓ n sz
 |u=>u
def LF (B:aX) (pl:List Int):List (Nat×aX):=[(7001,B),(7006,bG pl)]
theorem N7 {D:List Nat} {fr fr':List AV} {tB:TypeId} {csB:List AV} {n:Nat} {pl:List Int} {V:List Bool} {c:Nat->List Int} (hcs:ge [(7001, .old 7001),(7006, .old 7006)] 400 csB csB)
  (hD:qH [(7001, .old 7001),(7006, .old 7006)] D=true) (hf:ge [(7001, .old 7001),(7006, .old 7006)] 400 (fr.map (N6 ((List.range n).map c))) fr'):aM D fr (uG (.box tB csB) n pl V c []) fr' (ai.ofL (LF (.box tB csB) pl)):=by
 obtain⟨ls,els⟩:∃ls,ls=18::(List.range n).map fun k=>20000+k:=⟨_,rfl⟩
 have hbb:((List.range n).map c).length=n:=by simp
 have hbk:∀k,k<n->((List.range n).map c).getD k []=c k:=fun k hk=>by
  rw[gD,List.getElem?_map,List.getElem?_range hk];rfl
 have on1:bS (uG (.box tB csB) n pl V c []) ls 18=some (.hdr 24 (fun k=>[.row (sQ 20000 [] k) (c k).length 1]) n):=by
  unfold bS
  rw[wd (by rw[els];exact List.mem_cons_self)]
  rfl
 have on2:∀k,k<n->bS (uG (.box tB csB) n pl V c []) ls (20000+k)=some (.row 3 0 aD (c k)):=fun k hk=>by
  unfold bS
  rw[wd (by rw[els];exact List.mem_cons_of_mem _ (List.mem_map.2 ⟨k,List.mem_range.2 hk,rfl⟩))]
  exact z7 (Bz n) hk
 have off:∀x,x=7001\/x=7006->Dn ls x=false:=fun x hx=>Gu fun q hq=>by
  rw[els] at hq
  rcases List.mem_cons.1 hq with rfl|hq
  ·omega
  ·obtain⟨k,_,rfl⟩:=List.mem_map.1 hq
   omega
 have e1:gQ (uG (.box tB csB) n pl V c []) ls 0 7001=some (.box tB csB):=by
  unfold gQ
  rw[off 7001 (.inl rfl)]
  show some (aX.box tB (csB.map (borD _ 0)))=_
  rw[show borD (bS (uG (.box tB csB) n pl V c []) ls) 0=id from funext fun _=>rfl,List.map_id]
 have e2:gQ (uG (.box tB csB) n pl V c []) ls 0 7006=some (bG pl):=by
  unfold gQ
  rw[off 7006 (.inr rfl)]
  rfl
 have hS:aM D (fr.map (N6 ((List.range n).map c))) (gQ (uG (.box tB csB) n pl V c []) ls 0) fr' (ai.ofL (LF (.box tB csB) pl)):=by
  refine aM.by_ [(7001, .old 7001),(7006, .old 7006)] _ 400 ?_ ?_ hf
  ·rw[Bool.and_eq_true];exact⟨rfl,hD⟩
  ·refine⟨?_,?_,trivial⟩
   ·show ie _ 400 (gQ _ ls 0 7001) _
    rw[e1]
    show(match Nat.beq tB tB with|true=>ge _ 400 csB csB|false=>False)
    rw[Nat.beq_refl]
    exact hcs
   ·show ie _ 400 (gQ _ ls 0 7006) _
    rw[e2]
    rfl
 rw[fj] at hS⊢
 intro S F ρ0 ρ a w h0 h1 hM hF
 have hG:∀v u,RV S ρ v u->RV (bO S ρ (bS (uG (.box tB csB) n pl V c []) ls) w) ρ v (N6 ((List.range n).map c) u):=by
  intro v u hr
  have keep:=hr.mono (du hM ls) (aw.le_refl _)
  cases u with
  |row ℓ m sz=>
   unfold N6
   dsimp only
   split
   ·rename_i hb
    have:=Nat.eq_of_beq_eq_true hb
    subst this
    refine .p (IH hM ls (g:=fun k=>[.row (sQ 20000 [] k) (c k).length 1]) (lab:=fun k=>20000+k) (ti:=3) (by rw[hbb];exact on1) (fun k hk=>?_) (fun k hk=>?_) hr)
    ·rw[hbb] at hk;rw[hbk k hk];rfl
    ·rw[hbb] at hk;rw[hbk k hk];exact on2 k hk
   ·exact keep
  |_=>exact keep
 obtain⟨S2,ρ2,k1,k2,k3,k4⟩:=hS _ F ρ0 ρ a w h0 h1 (hM.lendL ls 0) ⟨be.map_of hF.1 hG,hF.2⟩
 exact⟨S2,ρ2,ag.le_trans (du hM ls) k1,k2,k3,k4⟩
end
end
section
theorem Kc.joinT {bk:Nat->List Nat} {A B:List Nat} {p q r:Nat} {f g h:Nat->Option Nat} (h1:Kc bk A p f q g) (h2:Kc bk B q g r h):Kc bk (A++B) p f r h:=by
 induction h1 with
 |nil=>exact h2
 |skip a _ ih=>exact .skip a (ih h2)
 |new a b _ ih=>exact .new a b (ih h2)
theorem Dd {p b:Nat}:∀{l:List Nat} {s:(Nat->Option Nat)×List Nat},gr p (l++[b]) s=if(gr p l s).1 b=none then(cQ (gr p l s).1 b (some p),b::(gr p l s).2) else gr p l s
 |[],s=>rfl
 |a::l,s=>by
  rw[List.cons_append,gr,gr]
  exact Dd
def LG (n:Nat) (f:Nat->Option Nat):Nat:=((List.range n).filter fun x=>decide (f x=none)).length
theorem Lt (n:Nat) (f:Nat->Option Nat):LG n f<=n:=by
 have:=List.length_filter_le (fun x=>decide (f x=none)) (List.range n)
 rw[List.length_range] at this
 exact this
theorem yD {p n:Nat} {l:List Nat} {s:(Nat->Option Nat)×List Nat} (h:∀b∈l,b<n):(gr p l s).2.length+LG n (gr p l s).1=s.2.length+LG n s.1:=sA p l s n h
structure Lu (bk:Nat->List Nat) (n p r:Nat) (f1:Nat->Option Nat) (w:List Nat) (f:Nat->Option Nat):Prop where
 up:∀g,Kw bk p w f g->Kw bk p [r] f1 g
 lt:∀x∈w,x<n
 bd:w.length+LG n f<=4001
theorem Lu.zero {bk:Nat->List Nat} {n p r:Nat} {f1:Nat->Option Nat} (hr:r<n) (hn:n<=4000):Lu bk n p r f1 [r] f1:=by
 refine⟨fun g h=>h,fun x hx=>?_,?_⟩
 ·rw[List.mem_singleton.1 hx];exact hr
 ·have:=Lt n f1
  simp only[List.length_cons,List.length_nil];omega
theorem Lu.pop {bk:Nat->List Nat} {n p r j:Nat} {f1 f:Nat->Option Nat} {w:List Nat} (hb:∀j,∀b∈bk j,b<n) (h:Lu bk n p r f1 (j::w) f):Lu bk n p r f1 (gr p (bk j) (f,w)).2 (gr p (bk j) (f,w)).1:=by
 refine⟨fun g hg=>h.up g (.cons hg),fun x hx=>?_,?_⟩
 ·rcases(mo.2.2 x).1 hx with k|⟨_,k⟩
  ·exact h.lt x (List.mem_cons_of_mem _ k)
  ·exact hb j x k
 ·have h1:=yD (p:=p) (s:=(f,w)) (hb j)
  have h2:=h.bd
  rw[List.length_cons] at h2
  dsimp only at h1
  omega
theorem Lu.less {bk:Nat->List Nat} {n p r j:Nat} {f1 f:Nat->Option Nat} {w:List Nat} (hb:∀j,∀b∈bk j,b<n) (h:Lu bk n p r f1 (j::w) f):(gr p (bk j) (f,w)).2.length+LG n (gr p (bk j) (f,w)).1<(j::w).length+LG n f:=by
 have h1:=yD (p:=p) (s:=(f,w)) (hb j)
 rw[List.length_cons]
 dsimp only at h1
 omega
theorem N8 {l:List Nat} {k:Nat} (h:k<l.length):l.reverse.getD k 0=l.getD (l.length-1-k) 0:=by
 rw[gD,List.getElem?_reverse h,gD]
theorem II {E:Nat->List Nat} {B:Nat} (h:∀i,(E i).length<=B) (i:Nat):(yx E i 0).length<=i*B:=by
 induction i with
 |zero=>exact Nat.zero_le _
 |succ i ih=>
  rw[<-yA]
  unfold yx at ih⊢
  rw[List.take_zero,List.map_nil,List.append_nil] at ih
  rw[List.take_length,List.length_append,List.length_map]
  have:=h i
  rw[Nat.add_mul]
  omega
theorem Gv {E:Nat->List Nat} {B:Nat} (h:∀i,(E i).length<=B) (i k:Nat):(yx E i k).length<=(i+1)*B:=by
 have h1:=II h i
 unfold yx at h1⊢
 rw[List.take_zero,List.map_nil,List.append_nil] at h1
 rw[List.length_append,List.length_map,List.length_take]
 have:=h i
 rw[Nat.add_mul]
 omega
set_option maxRecDepth 100000
set_option maxHeartbeats 16000000
def OX (p:ao) (s:az) (l:List ap) (o:List Int) (ss:List (List aQ)) (tt:List (List Int)) (sb:List Bool) (ol:List Int) (n:Nat):List AV:=[.str p.name, .int .i64 p.topology, .sl t0 cR p.states, .sl t0 cR p.messages, .sl t0 cR p.values, .int .i64 p.fault, .sl i0 eE p.resilience, .sl 0 aD p.initial, .sl 0 aD p.leader, .sl au fD p.rules, .int .i64 s.n, .int .i64 s.t, .int .i64 s.f, .sl aC bg l, .sl 0 aD o, .sl [] uE ss, .sl [] cU tt, .sl false yr sb, .sl 0 aD ol, .row 7006 n 1]
def Lv (p:ao) (s:az) (l:List ap) (o:List Int) (ss:List (List aQ)) (tt:List (List Int)) (sb:List Bool) (ol:List Int) (n:Nat):aX:=.box 71 (OX p s l o ss tt sb ol n)
def wi (od:List Nat) (x:Nat):Bool:=decide (x∈od)
def IJ (od:List Nat) (k:Nat) (x:Nat):Bool:=decide (x∈od.take k)
theorem Lw {od:List Nat} {k:Nat} (h:k<od.length):cQ (IJ od k) (od.getD k 0) true=IJ od (k+1):=by
 funext x
 unfold IJ
 rw[sN h]
 by_cases e:x=od.getD k 0
 ·subst e;rw[bJ];simp
 ·rw[bq _ _ e]
  have:(x∈od.take k++[od.getD k 0])↔x∈od.take k:=by rw[List.mem_append,List.mem_singleton];exact⟨fun h=>h.resolve_right e, .inl⟩
  exact(decide_eq_decide.2 this).symm
theorem IK (od:List Nat):IJ od od.length=wi od:=by
 funext x
 unfold IJ wi
 rw[List.take_length]
def OE (B:aX) (n:Nat) (pl:List Int) (V:List Bool):List (Nat×aX):=[(7001,B),(7006,bG pl),(24,yu V),(18, .row 24 () IC (List.replicate n ()))]
def z8 (tt:List (List Int)) (od:List Nat) (i k j:Nat):List Int:=bM (z6 (yx (jr tt) i k) (wi od) j)
def Nv (tt:List (List Int)) (od:List Nat) (n:Nat):Nat->List Nat:=z6 (yx (jr tt) n 0) (wi od)
theorem IL {tt:List (List Int)} {od:List Nat} {i k y:Nat} (hk:k<(jr tt i).length) (hy:(jr tt i).getD k 0=y) (h1:wi od i=true) (h2:wi od y=true) (j:Nat):z8 tt od i (k+1) j=if j=y then z8 tt od i k y++[(i:Int)] else z8 tt od i k j:=by
 unfold z8
 rw[yy hk,hy,Iz h1 h2]
 by_cases e:j=y
 ·rw[if_pos e,e,bJ,iz]
 ·rw[if_neg e,bq _ _ e]
theorem Lx {tt:List (List Int)} {od:List Nat} {i k y:Nat} (hk:k<(jr tt i).length) (hy:(jr tt i).getD k 0=y) (h:¬(wi od i=true/\wi od y=true)):z8 tt od i (k+1)=z8 tt od i k:=by
 funext j
 unfold z8
 rw[yy hk,hy,Lq h]
theorem Gx {tt:List (List Int)} {od:List Nat} {i:Nat}:z8 tt od i (jr tt i).length=z8 tt od (i+1) 0:=by
 funext j
 unfold z8
 rw[yA]
theorem Zqd {tt:List (List Int)} {n:Nat} (ht:z5 tt n) (i:Nat):(jr tt i).length<=20000000:=by
 have e:(jr tt i).length=(tt.getD i []).length:=by simp[jr]
 rw[e]
 by_cases hi:i<n
 ·exact(ht.e i hi).1
 ·rw[gD,List.getElem?_eq_none (by rw[ht.len_];omega)]
  exact Nat.zero_le _
theorem IM {tt:List (List Int)} {od:List Nat} {n i k j:Nat} (ht:z5 tt n) (hi:i<n):(z8 tt od i k j).length<=80000000000:=by
 have h1:=Gv (Zqd ht) i k
 have h2:(z6 (yx (jr tt) i k) (wi od) j).length<=(yx (jr tt) i k).length:=IB
 have h3:=ht.le
 unfold z8
 rw[eL]
 omega
theorem N9 {tt:List (List Int)} {od:List Nat} {n:Nat} (hod:∀x∈od,x<n) (j:Nat):∀b∈Nv tt od n j,b<n:=fun b hb=>by
 have h:=(IA.1 hb).2.1
 exact hod b (of_decide_eq_true h)
theorem Zqe {tt:List (List Int)} {od:List Nat} {n j:Nat} (ht:z5 tt n):(Nv tt od n j).length<=80000000000:=by
 have h1:=II (Zqd ht) n
 have h2:(z6 (yx (jr tt) n 0) (wi od) j).length<=(yx (jr tt) n 0).length:=IB
 have h3:=ht.le
 unfold Nv
 omega
theorem Nw {tt:List (List Int)} {od:List Nat} {n j:Nat} (hj:j<n):((List.range n).map (z8 tt od n 0)).getD j []=bM (Nv tt od n j):=by
 rw[gD,List.getElem?_map,List.getElem?_range hj]
 rfl
theorem Nb (j:Nat) (w:List Nat):bM (j::w).reverse=bM w.reverse++[(j:Int)]:=by rw[List.reverse_cons,iz]
theorem qp {D:List Nat} {fr fr':List AV} {tB:TypeId} {csB:List AV} {n:Nat} {pl:List Int} {V:List Bool} {c c':Nat->List Int} (e:c'=c) (hm:zg kW 400 (uG (.box tB csB) n pl V c []) (yK (.box tB csB) n pl V (fun k=>(c k).length) [])) (hD:∀d∈D,d=7001\/d=7006) (hf:ge kW 400 fr fr'):aM D fr (uG (.box tB csB) n pl V c []) fr' (uG (.box tB csB) n pl V c' []):=by
 subst e
 exact Gs (fun k=>20000+k) (Bz n) ⟨_,_,rfl⟩ hm ⟨_,rfl,fun k _=>rfl⟩ (fun k hk=>z7 (Bz n) hk) (fun k k' _ _ h=>Nat.add_left_cancel h) (fun k _=>by omega) hD hf
theorem Zqf {D:List Nat} {fr:List AV} {B:aX} {n y:Nat} {pl:List Int} {V:List Bool} {c:Nat->List Int} {cd:Code} {Q:bR} (hy:y<n) (hB:∃t cs,B= .box t cs) (hm:zg kW 400 (uG B n pl V c []) (yK B n pl V (fun k=>(c k).length) [(301,y)])) (hD:∀d∈D,d=7001\/d=7006) (hf:ge kW 400 fr fr)
  (h:fx Tryz.prog tt D cd fr (uG B n pl V c [(301,y)]) Q):Ea Tryz.prog tt D cd fr (uG B n pl V c []) Q:=
 JV (Gs (fun k=>20000+k) (Na hy) hB hm ⟨_,rfl,fun k _=>rfl⟩ (fun k hk=>z7 (Bz n) hk) (fun k k' _ _ h=>Nat.add_left_cancel h) (fun k _=>by omega) hD hf) h
theorem uH:∀d∈[7001,7006],d=7001\/d=7006:=by simp
theorem Jx (p:ao) (s:az) (l:List ap) (o:List Int) (ss:List (List aQ)) (tt:List (List Int)) (sb:List Bool) (od:List Nat) (n:Nat) (ht:z5 tt n) (hod:∀x∈od,x<n) (hol:od.length<=4000):
  an Tryz.prog 26 [.ptr 7001 0] (ai.ofL (LF (Lv p s l o ss tt sb (bM od) n) (eW n fun _=>none))) (fun u M=>u= .tup []/\∃k pt,Kc (Nv tt od n) od.reverse 0 (fun _=>none) k pt/\M=ai.ofL (LF (Lv p s l o ss tt sb (bM od) n) (eW n pt))):=by
 have hol2:=eL od
 have htn:=ht.len_
 have htl:=ht.le
 have hE:=ht.lt
 have hpl:=fun f=>sy n f
 refine an.renorm 400 (R:=fun u M=>u= .tup []/\∃k pt,Kc (Nv tt od n) od.reverse 0 (fun _=>none) k pt/\dK [(7001, .old 7001),(7006, .old 7006)] 400 M (LF (Lv p s l o ss tt sb (bM od) n) (eW n pt))) ?_ ?_
 case refine_2=>
  rintro u M ⟨rfl,k,pt,h1,h2⟩
  exact⟨_,_, .tup [],rfl,h2,trivial,rfl,k,pt,h1,rfl⟩
 refine an.introW ab (LF (Lv p s l o ss tt sb (bM od) n) (eW n fun _=>none)) Tryz.func26 rfl (by decide) ?_
 dsimp only[mv,List.append,List.length,Nat.sub]
 refine aE.seqC ab ac ?_
 conv=>whnf
 refine ww () IC () rfl (by dsimp only;omega) ?_
 rw[tN,htn]
 conv=>whnf
 refine aE.seqC ab ac ?_
 conv=>whnf
 refine ww false yr false rfl (by dsimp only;omega) ?_
 rw[tN,htn]
 conv=>whnf
 refine aE.seqC ab ac ?_
 conv=>whnf
 refine aE.loopF ab ac (fun i:Nat=>i<=od.length) (fun i=>[(4, .int .i64 (i:Int))]) (fun i=>OE (Lv p s l o ss tt sb (bM od) n) n (eW n fun _=>none) (i8 n (IJ od i))) (fun i=>od.length-i) 0 (Nat.zero_le _) ?_;conv=>whnf
 refine⟨?_,?_⟩
 ·have e:i8 n (IJ od 0)=List.replicate n false:=by
   unfold i8
   refine List.ext_getElem (by simp) fun i h1 h2=>?_
   simp[IJ]
  unfold OE
  rw[e]
  exact aM.by_ [(7001, .old 7001),(7006, .old 7006),(24, .old 24),(18, .old 18)] _ 400 rfl (aa) (aa)
 rintro i hi
 have hsl:=oz n (IJ od i)
 conv=>whnf
 refine ah ?_ ?_<;>(intro g1;conv=>whnf)
 ·have hil:i<od.length:=by omega
  have hx:=hod _ (dX hil)
  have hat:(bM od).getD i 0=((od.getD i 0:Nat):Int):=js
  have hup:=Lw hil
  refine nI ?_
  rw[tN,hat]
  conv=>whnf
  refine nI ?_
  rw[tN]
  conv=>whnf
  refine ak true rfl ?_
  rw[yv,hup]
  conv=>whnf
  repeat' ((first|refine nI ?_|refine aI ?_|refine tI ?_|refine fI ?_|fail);conv=>whnf)
  exact⟨i+1,sI,by omega,by dsimp only;omega⟩
 obtain rfl:i=od.length:=by omega
 rw[IK]
 have hVl:=oz n (wi od)
 refine aE.seqC ab ac ?_
 conv=>whnf
 refine aE.loopM ab ac (fun i:Nat=>i<=n) (fun i=>[(5, .int .i64 (i:Int))]) (fun i=>uG (Lv p s l o ss tt sb (bM od) n) n (eW n fun _=>none) (i8 n (wi od)) (z8 tt od i 0) []) (fun i=>n-i) 0 (Nat.zero_le _) ?_
 conv=>whnf
 refine⟨?_,?_⟩
 ·show aM _ _ _ _ _
  exact Gt ⟨_,_,rfl⟩ rfl (aa) rfl uH (aa)
 rintro i hi
 by_cases hil:i<n
 case neg=>
  obtain rfl:n=i:=by omega
  refine vj ?_
  conv=>whnf
  refine fI ?_
  conv=>whnf
  refine aE.sub (fr':=((.ptr 7001 0):: .top::(.sl [] cU ((List.range n).map (z8 tt od n 0)))::T 198)) (N7 (aa) rfl (aa)) ?_
  have hb:=N9 (tt:=tt) hod
  have hbr:=fun j hj=>Nw (tt:=tt) (od:=od) (n:=n) (j:=j) hj
  have hbl:((List.range n).map (z8 tt od n 0)).length=n:=by simp
  have hbn:=fun j=>Zqe (od:=od) (j:=j) ht
  generalize (List.range n).map (z8 tt od n 0)=bb at hbr hbl⊢
  generalize Nv tt od n=bk at hb hbr hbn⊢
  refine aE.seqC ab ac ?_
  conv=>whnf
  refine aZ ab ac _ _ _ _ ?_
  conv=>whnf
  refine aI ?_
  conv=>whnf
  refine aE.loopF ab ac (fun z:Nat×Nat×(Nat->Option Nat)=>z.1<=od.length/\z.2.1<=z.1/\Kc bk (od.reverse.take z.1) 0 (fun _=>none) z.2.1 z.2.2) (fun z=>[(8, .int .i64 (z.2.1:Int)),(9, .int .i64 ((od.length:Int)-1-(z.1:Int)))]) (fun z=>LF (Lv p s l o ss tt sb (bM od) n) (eW n z.2.2)) (fun z=>od.length-z.1) (0,0,fun _=>none) ⟨Nat.zero_le _,Nat.le_refl _, .nil⟩ ?_;conv=>whnf
  refine⟨aM.by_ [(7001, .old 7001),(7006, .old 7006)] _ 400 rfl (aa) (aa),?_⟩
  rintro⟨k,a,f⟩ ⟨hk,hak,hK⟩
  dsimp only at hk hak hK⊢
  have hplf:=hpl f
  conv=>whnf
  refine ah ?_ ?_<;>(intro g1;conv=>whnf)
  case refine_2=>
   obtain rfl:k=od.length:=by omega
   rw[List.take_of_length_le (by simp)] at hK
   exact⟨rfl,a,f,hK,aa⟩
  have hkl:k<od.length:=by omega
  have e1:((od.length:Int)-1-(k:Int)).toNat=od.length-1-k:=by omega
  have hup:=sN (l:=od.reverse) (k:=k) (by rw[List.length_reverse];exact hkl)
  rw[N8 hkl] at hup
  have hat:(bM od).getD (od.length-1-k) 0=((od.getD (od.length-1-k) 0:Nat):Int):=js
  have hr:=hod _ (dX (show od.length-1-k<od.length by omega))
  generalize od.getD (od.length-1-k) 0=r at hup hat hr
  have hpa:=Ik hr f
  refine dI ?_
  conv=>whnf
  refine nI ?_
  rw[e1,hat]
  conv=>whnf
  refine nI ?_
  rw[tN]
  conv=>whnf
  refine ah ?_ ?_<;>(intro g2;conv=>whnf)
  ·have hne:f r≠none:=fun h=>by have:=hpa.2 h;omega
   repeat' ((first|refine nI ?_|refine aI ?_|refine tI ?_|refine fI ?_|fail);conv=>whnf)
   refine⟨(k+1,a,f),aM.by_ [(7001, .old 7001),(7006, .old 7006)] _ 400 rfl (aa) (aa),⟨hkl,by dsimp only;omega,?_⟩,by dsimp only;omega⟩
   dsimp only
   rw[hup]
   exact hK.joinT (.skip hne .nil)
  have hnone:f r=none:=hpa.1 (by omega)
  refine nI ?_
  rw[e1,hat]
  conv=>whnf
  refine dR ?_
  conv=>whnf
  refine nI ?_
  rw[e1,hat]
  conv=>whnf
  refine nI ?_
  rw[tN]
  conv=>whnf
  refine ak _ rfl ?_
  rw[F4]
  conv=>whnf
  have hnew:=fun g (h:Kw bk a [r] (cQ f r (some a)) g)=>hK.joinT (.new hnone h .nil)
  rw[<-hup] at hnew
  obtain⟨f1,ef1⟩:∃f1,cQ f r (some a)=f1:=⟨_,rfl⟩
  rw[ef1] at hnew⊢
  refine aE.loopF ab ac (fun z:List Nat×(Nat->Option Nat)=>Lu bk n a r f1 z.1 z.2) (fun z=>[(10, .row 1000 z.1.length 1),(125, .top)]) (fun z=>(1000,bG (bM z.1.reverse))::LF (Lv p s l o ss tt sb (bM od) n) (eW n z.2)) (fun z=>z.1.length+LG n z.2) ([r],f1) (Lu.zero hr htl) ?_;conv=>whnf
  refine⟨aM.by_ [(1000, .old 125),(7001, .old 7001),(7006, .old 7006)] _ 400 rfl (aa) (aa),?_⟩
  rintro⟨w,f2⟩ hW
  dsimp only at hW⊢
  have hwl:=hW.bd
  have hrl0:(bM w.reverse).length=w.length:=by rw[eL,List.length_reverse]
  conv=>whnf
  refine ah ?_ ?_<;>(intro g3;conv=>whnf)
  case refine_2=>
   obtain rfl:w=[]:=List.eq_nil_of_length_eq_zero (by omega)
   refine aI ?_
   conv=>whnf
   repeat' ((first|refine nI ?_|refine aI ?_|refine tI ?_|refine fI ?_|fail);conv=>whnf)
   refine⟨(k+1,a+1,f2),aM.by_ [(7001, .old 7001),(7006, .old 7006)] _ 400 rfl (aa) (aa),⟨hkl,by dsimp only;omega,hnew f2 (hW.up _ .nil)⟩,by dsimp only;omega⟩
  obtain⟨j,w2,rfl⟩:∃j w2,w=j::w2:=by
   cases w with
   |nil=>exact absurd g3 (by simp)
   |cons j w2=>exact⟨j,w2,rfl⟩
  have hjn:=hW.lt j List.mem_cons_self
  have hcl:(j::w2).length=w2.length+1:=rfl
  have hrl:(bM w2.reverse).length=w2.length:=by rw[eL,List.length_reverse]
  have hgj:(bM (j::w2).reverse).getD w2.length 0=(j:Int):=by rw[Nb,<-hrl];simp
  have ht2:(((j::w2).length:Int)-1).toNat=w2.length:=by omega
  have htk:(bM (j::w2).reverse).take w2.length=bM w2.reverse:=by rw[Nb,<-hrl];simp
  refine aI ?_
  conv=>whnf
  refine nI ?_
  rw[ht2]
  conv=>whnf
  rw[hgj]
  refine aI ?_
  conv=>whnf
  refine DU ?_
  conv=>whnf
  refine nI ?_
  rw[ht2]
  conv=>whnf
  have hpop:=hW.pop hb
  have hless:=hW.less hb
  have hbj:=hb j
  have hrow:=hbr j hjn
  have hbjl:=hbn j
  generalize bk j=bj at hpop hless hbj hrow hbjl
  have hbl2:=eL bj
  have hpu:∀m:Nat,(gr a (bj.take m) (f2,w2)).2.length+LG n (gr a (bj.take m) (f2,w2)).1=w2.length+LG n f2:=fun m=>yD fun b h=>hbj b (List.mem_of_mem_take h)
  refine aE.loopF ab ac (fun m:Nat=>m<=bj.length) (fun m=>[(12, .int .i64 (m:Int)),(10, .row 1000 (gr a (bj.take m) (f2,w2)).2.length 1),(139, .top),(142, .top),(143, .top),(146, .top),(148, .top),(149, .top),(152, .top)]) (fun m=>(1000,bG (bM (gr a (bj.take m) (f2,w2)).2.reverse))::LF (Lv p s l o ss tt sb (bM od) n) (eW n (gr a (bj.take m) (f2,w2)).1)) (fun m=>bj.length-m) 0 (Nat.zero_le _) ?_;conv=>whnf
  refine⟨?_,?_⟩
  ·rw[show bM (gr a (bj.take 0) (f2,w2)).2.reverse=_ from htk.symm]
   exact aM.by_ [(1000, .old 152),(7001, .old 7001),(7006, .old 7006)] _ 400 rfl (aa) (aa)
  rintro m hm
  have hpm:=hpu m
  have hps:=fun b=>Dd (p:=a) (b:=b) (l:=bj.take m) (s:=(f2,w2))
  conv=>whnf
  refine nI ?_
  rw[tN,hrow]
  conv=>whnf
  refine ah ?_ ?_<;>(intro g4;conv=>whnf)
  case refine_2=>
   obtain rfl:m=bj.length:=by omega
   rw[List.take_length]
   repeat' ((first|refine nI ?_|refine aI ?_|refine tI ?_|refine fI ?_|fail);conv=>whnf)
   exact⟨((gr a bj (f2,w2)).2,(gr a bj (f2,w2)).1),aM.by_ [(1000, .old 1000),(7001, .old 7001),(7006, .old 7006)] _ 400 rfl (aa) (aa),hpop,hless⟩
  have hml:m<bj.length:=by omega
  have hup2:=sN hml
  have haty:(bM bj).getD m 0=((bj.getD m 0:Nat):Int):=js
  have hy:=hbj _ (dX hml)
  generalize bj.getD m 0=y at hup2 haty hy
  have hps:=hps y
  rw[<-hup2] at hps
  obtain⟨⟨f3,w3⟩,e3⟩:∃z,gr a (bj.take m) (f2,w2)=z:=⟨_,rfl⟩
  rw[e3] at hps hpm⊢
  dsimp only at hps hpm⊢
  have hp3:=hpl f3
  have hpy:=Ik hy f3
  have hw3:(bM w3.reverse).length=w3.length:=by rw[eL,List.length_reverse]
  refine dI ?_
  conv=>whnf
  refine nI ?_
  rw[tN,hrow]
  conv=>whnf
  refine nI ?_
  rw[tN,haty]
  conv=>whnf
  refine nI ?_
  rw[tN]
  conv=>whnf
  refine ah ?_ ?_<;>(intro g5;conv=>whnf)
  ·have hn3:f3 y=none:=hpy.1 (by omega)
   rw[if_pos hn3] at hps
   refine dR ?_
   conv=>whnf
   refine nI ?_
   rw[tN,hrow]
   conv=>whnf
   refine nI ?_
   rw[tN,haty]
   conv=>whnf
   refine nI ?_
   rw[tN]
   conv=>whnf
   refine ak _ rfl ?_
   rw[F4]
   conv=>whnf
   refine nI ?_
   rw[tN,hrow]
   conv=>whnf
   refine nI ?_
   rw[tN,haty]
   conv=>whnf
   refine cB [(y:Int)] rfl (by rw[hw3];simp only[List.length_cons,List.length_nil];omega) ?_
   conv=>whnf
   repeat' ((first|refine nI ?_|refine aI ?_|refine tI ?_|refine fI ?_|fail);conv=>whnf)
   refine⟨m+1,?_,hml,by dsimp only;omega⟩
   dsimp only
   rw[hps]
   dsimp only
   rw[Nb]
   exact aM.by_ [(1000, .old 198),(7001, .old 7001),(7006, .old 7006)] _ 400 rfl (aa) (aa)
  ·have hn3:¬f3 y=none:=fun h=>by have:=hpy.2 h;omega
   rw[if_neg hn3] at hps
   repeat' ((first|refine nI ?_|refine aI ?_|refine tI ?_|refine fI ?_|fail);conv=>whnf)
   refine⟨m+1,?_,hml,by dsimp only;omega⟩
   dsimp only
   rw[hps]
   exact aM.by_ [(1000, .old 1000),(7001, .old 7001),(7006, .old 7006)] _ 400 rfl (aa) (aa)
 refine vj ?_
 conv=>whnf
 refine tI ?_
 conv=>whnf
 have hte:=ht.e i hil
 have hel:(jr tt i).length=(tt.getD i []).length:=by simp[jr]
 refine aE.loopM ab ac (fun k:Nat=>k<=(tt.getD i []).length) (fun k=>[(6, .int .i64 (k:Int))]) (fun k=>uG (Lv p s l o ss tt sb (bM od) n) n (eW n fun _=>none) (i8 n (wi od)) (z8 tt od i k) []) (fun k=>(tt.getD i []).length-k) 0 (Nat.zero_le _) ?_
 conv=>whnf
 refine⟨?_,?_⟩
 ·show aM _ _ _ _ _
  exact qp rfl (aa) uH (aa)
 rintro k hk
 by_cases hkl:k<(tt.getD i []).length
 case neg=>
  obtain rfl:k=(tt.getD i []).length:=by omega
  refine vj ?_
  conv=>whnf
  refine nI ?_
  rw[tN]
  conv=>whnf
  refine fI ?_
  conv=>whnf
  repeat' ((first|refine nI ?_|refine aI ?_|refine tI ?_|refine fI ?_|fail);conv=>whnf)
  refine⟨i+1,?_,by omega,by dsimp only;omega⟩
  dsimp only
  rw[<-Gx,hel]
  exact qp rfl (aa) uH (aa)
 obtain⟨y,ey,hy⟩:=hte.2 k hkl
 obtain⟨ek1,ek2⟩:=Gn ey hkl
 have hVi:=wa hil (wi od)
 have hVy:=wa hy (wi od)
 by_cases hin:wi od i=true/\wi od y=true
 case neg=>
  have hno:=Lx ek2 ek1 hin
  refine vj ?_
  conv=>whnf
  refine nI ?_
  rw[tN]
  conv=>whnf
  refine tI ?_
  conv=>whnf
  refine nI ?_
  rw[tN]
  conv=>whnf
  refine nI ?_
  rw[tN,ey]
  conv=>whnf
  refine nI ?_
  rw[tN]
  conv=>whnf
  rw[hVi]
  cases e1:wi od i with
  |false=>
   conv=>whnf
   repeat' ((first|refine nI ?_|refine aI ?_|refine tI ?_|refine fI ?_|fail);conv=>whnf)
   refine⟨k+1,?_,by omega,by dsimp only;omega⟩
   dsimp only
   exact qp hno (aa) uH (aa)
  |true=>
   conv=>whnf
   refine nI ?_
   rw[tN]
   conv=>whnf
   rw[hVy]
   cases e2:wi od y with
   |true=>exact absurd ⟨e1,e2⟩ hin
   |false=>
    conv=>whnf
    repeat' ((first|refine nI ?_|refine aI ?_|refine tI ?_|refine fI ?_|fail);conv=>whnf)
    refine⟨k+1,?_,by omega,by dsimp only;omega⟩
    dsimp only
    exact qp hno (aa) uH (aa)
 have hyes:=IL ek2 ek1 hin.1 hin.2
 have f1:=Na hy
 have lr:sQ 20000 [(301,y)] y=301:=by rw[sQ,Nat.beq_refl]
 have lo:∀k,k≠y->sQ 20000 [(301,y)] k=20000+k:=fun k h=>by rw[sQ,wZ (fun e=>h e.symm)];rfl
 have hbl:=IM (od:=od) (k:=k) (j:=y) ht hil
 refine Zqf hy ⟨_,_,rfl⟩ (aa) uH (aa) ?_
 conv=>whnf
 refine nI ?_
 rw[tN]
 conv=>whnf
 refine tI ?_
 conv=>whnf
 refine nI ?_
 rw[tN]
 conv=>whnf
 refine nI ?_
 rw[tN,ey]
 conv=>whnf
 refine nI ?_
 rw[tN]
 conv=>whnf
 rw[hVi,hin.1]
 conv=>whnf
 refine nI ?_
 rw[tN]
 conv=>whnf
 rw[hVy,hin.2]
 conv=>whnf
 refine nI ?_
 rw[tN]
 conv=>whnf
 rw[lr]
 conv=>whnf
 refine cB [(i:Int)] rfl lI ?_
 conv=>whnf
 refine nI ?_
 rw[tN]
 conv=>whnf
 repeat' ((first|refine nI ?_|refine aI ?_|refine tI ?_|refine fI ?_|fail);conv=>whnf)
 refine⟨k+1,?_,by omega,by dsimp only;omega⟩
 dsimp only
 refine Gs (fun x=>if x=y then 92 else 20000+x) (Bz n) ⟨_,_,rfl⟩ (aa) ⟨_,rfl,fun x hx=>?_⟩ (fun x hx=>?_) (fun x x' hx hx' e=>?_) (fun x hx=>?_) uH (aa)
 ·rw[hyes x]
  by_cases e:x=y
  ·subst e
   rw[if_pos rfl,if_pos rfl,Nat.beq_refl,List.length_append]
   rfl
  ·rw[if_neg e,if_neg e,wZ e]
   dsimp only
   rw[lo x e]
 ·rw[hyes x]
  by_cases e:x=y
  ·subst e
   rw[if_pos rfl,if_pos rfl]
   rfl
  ·rw[if_neg e,if_neg e]
   have e4:=z7 (B:=Lv p s l o ss tt sb (bM od) n) (pl:=eW n fun _=>none) (V:=i8 n (wi od)) (c:=z8 tt od i k) f1 hx
   rw[lo x e] at e4
   repeat rw[ai.set_ne _ _ (by omega)]
   exact e4
 ·by_cases e1:x=y<;>by_cases e2:x'=y
  ·omega
  ·rw[if_pos e1,if_neg e2] at e;omega
  ·rw[if_neg e1,if_pos e2] at e;omega
  ·rw[if_neg e1,if_neg e2] at e;omega
 ·by_cases e1:x=y
  ·rw[if_pos e1];omega
  ·rw[if_neg e1];omega
end
end Go.Proofs.YtokjgegkhlkopaaGreatDoor
