import Derived.Test.YtekmminpfhacpaaGreatDoorG2
set_option linter.unusedVariables false
set_option linter.unusedSimpArgs false
namespace Go.Proofs.YtekmminpfhacpaaGreatDoor
section
def md (S F:ai) (ρ:aE) (w:World) (R:AV->ag->Prop) (e:Ending) (w':World):Prop:=
 ∃v u M' S' ρ',e= .returned v/\R u M'/\S.le S'/\aE.le ρ ρ'/\aD S' F ρ' M' w'/\RV S' ρ' v u/\eo w w'
def q9 (P:Program) (f:FuncId):Prop:=∃fn,P.funcs[f]? =some fn/\(fn.name== "runtime.NumGoroutine")=false/\fn.body.isNone=false
structure aj (P:Program) (f:FuncId) (args:List AV) (M:ag) (R:AV->ag->Prop):Prop where
 out:q9 P f/\∀S F ρ vs w,aD S F ρ M w->bk S ρ vs args->Calls P f vs.toArray w (md S F ρ w R)
theorem ce {P:Program} {f:FuncId} {args:List AV} {M:ag} {R:AV->ag->Prop}:aj P f args M R↔(q9 P f/\∀S F ρ vs w,aD S F ρ M w->bk S ρ vs args->Calls P f vs.toArray w (md S F ρ w R)):=⟨fun h=>h.out,fun h=>⟨h⟩⟩
def oU (S F:ai) (w:World) (R:AV->Prop) (e:Ending) (w':World):Prop:=
 ∃v u S',e= .returned v/\R u/\S.le S'/\S'.inW w'/\F.inW w'/\(∀b,S' b=none\/F b=none)/\RP S' v u/\eo w w'
structure ah (P:Program) (f:FuncId) (args:List AV) (R:AV->Prop):Prop where
 out:q9 P f/\∀S F vs w,Gl S->S.inW w->F.inW w->(∀b,S b=none\/F b=none)->ir S vs args->Calls P f vs.toArray w (oU S F w R)
theorem dM {P:Program} {f:FuncId} {args:List AV} {R:AV->Prop}:ah P f args R↔(q9 P f/\∀S F vs w,Gl S->S.inW w->F.inW w->(∀b,S b=none\/F b=none)->ir S vs args->Calls P f vs.toArray w (oU S F w R)):=⟨fun h=>h.out,fun h=>⟨h⟩⟩
def dl:Nat->AV->Bool
 |0,_=>false
 |n+1, .agg cs=>cs.all (dl n)
 |n+1, .tup cs=>cs.all (dl n)
 |n+1, .fn _ cs=>cs.all (dl n)
 |_+1, .ptr _ _=>false
 |_+1, .row _ _ _=>false
 |_+1, .rel _ _ _=>false
 |_+1, .part _ _ _ _=>false
 |_+1, .mp _=>false
 |_+1,_=>true
section
variable {S F:ai} {ρ:aE} {M:ag} {w:World} {P:Program}
theorem me:∀(n:Nat) {u:AV} {v:Value},dl n u=true->RV S ρ v u->RP S v u:=by
 intro n
 induction n with
 |zero=>intro u v h;simp[dl] at h
 |succ n ih=>
  intro u v h hv
  have hl:∀{cs:List AV} {vs:Array Value},cs.all (dl n)=true->bk S ρ vs.toList cs->vs.size=cs.length/\∃vals:Nat->Value,(∀i,i<vs.size->vs[i]? =some (vals i))/\∀(j:Nat) u,cs[j]? =some u->RP S (vals j) u:=by
   intro cs vs ha hr
   have hs:=hr.1
   simp only[Array.length_toList] at hs
   refine⟨hs,fun i=>vs.getD i undef,fun i hi=>by simp[hi],fun j x hx=>?_⟩
   obtain⟨y,hy,hyr⟩:=hr.2 j x hx
   have:vs.getD j undef=y:=by
    have hy':vs[j]? =some y:=by simpa using hy
    simp[hy']
   show RP S (vs.getD j undef) x
   rw[this]
   exact ih (List.all_eq_true.1 ha x (List.mem_of_getElem? hx)) hyr
  cases u with
  |agg cs=>
   obtain⟨vs,rfl,hr⟩:=hv.agg_inv
   obtain⟨hs,vals,he,hvv⟩:=hl h hr
   exact .agg cs vs hs vals he hvv
  |tup cs=>
   obtain⟨vs,rfl,hr⟩:=hv.tup_inv
   obtain⟨hs,vals,he,hvv⟩:=hl h hr
   exact .tup cs vs hs vals he hvv
  |fn f cs=>
   obtain⟨vs,rfl,hr⟩:=hv.fn_inv
   obtain⟨hs,vals,he,hvv⟩:=hl h hr
   exact .fn f cs vs hs vals he hvv
  |ptr _ _=>simp[dl] at h
  |row _ _ _=>simp[dl] at h
  |rel _ _ _=>simp[dl] at h
  |part _ _ _ _=>simp[dl] at h
  |mp _=>simp[dl] at h
  |top=>exact .top _
  |int k n=>rw[hv.int_inv];exact .int _ _
  |bool b=>rw[hv.bool_inv];exact .bool _
  |str s=>rw[hv.str_inv];exact .str _
  |nilsl=>rw[hv.nilsl_inv];exact .nilsl
  |val x=>rw[hv.val_inv];exact .val _
  |sl d enc l=>exact hv.sl_inv
  |slc d enc l=>exact hv.slc_inv
  |pd c=>exact hv.pd_inv
theorem vd {n:Nat} {us:List AV} {vs:List Value} (h:us.all (dl n)=true) (hv:bk S ρ vs us):ir S vs us:=
 ⟨hv.1,fun i u hu=>let ⟨v,e,hr⟩:=hv.2 i u hu;⟨v,e,me n (List.all_eq_true.1 h u (List.mem_of_getElem? hu)) hr⟩⟩
noncomputable def eE (F:ai) (ρ:aE) (M:ag) (w:World) (own:Nat->Prop):ai:=fun k=>
 open Classical in if(∃ℓ B b,M ℓ=some B/\ρ ℓ=some b/\B.live b/\b.blk=k/\¬own ℓ) then w.heap[k]? else F k
theorem kW {own:Nat->Prop} {ℓ:Nat} {B:bf} {b:fh} (h1:M ℓ=some B) (h2:ρ ℓ=some b) (h3:B.live b) (h4:¬own ℓ):eE F ρ M w own b.blk=w.heap[b.blk]?:=by
 unfold eE;rw[if_pos ⟨ℓ,B,b,h1,h2,h3,rfl,h4⟩]
theorem kv {own:Nat->Prop} (hM:aD S F ρ M w):ai.le F (eE F ρ M w own):=by
 intro k o hk
 unfold eE
 split
 ·exact hM.fw k o hk
 ·exact hk
theorem mZ {own:Nat->Prop} (hM:aD S F ρ M w):(eE F ρ M w own).inW w:=by
 intro k o hk
 unfold eE at hk
 split at hk
 ·exact hk
 ·exact hM.fw k o hk
theorem oV {own:Nat->Prop} (hM:aD S F ρ M w) (k:Nat):S k=none\/eE F ρ M w own k=none:=by
 unfold eE
 split
 ·rename_i h
  obtain⟨ℓ,B,b,h1,h2,h3,rfl,_⟩:=h
  obtain⟨b',hb',hr⟩:=hM.blk _ _ h1
  rw[h2] at hb';cases hb'
  exact .inl (hr.off h3).1
 ·exact hM.sf k
theorem aD.behind {S':ai} {w':World} (hM:aD S F ρ M w) (hle:S.le S') (hs:S'.inW w') (hf:(eE F ρ M w (fun _=>False)).inW w') (hd:∀b,S' b=none\/eE F ρ M w (fun _=>False) b=none):aD S' F ρ M w':=by
 refine⟨hs,fun k o hk=>hf k o (kv hM k o hk),fun k=>?_,hM.dom,fun ℓ B hB=>?_,hM.inj,hM.gl.mono hle⟩
 ·rcases hd k with h|h
  ·exact .inl h
  ·right
   cases hk:F k with
   |none=>rfl
   |some o=>rw[kv hM k o hk] at h;cases h
 ·obtain⟨b,hb,hr⟩:=hM.blk _ _ hB
  refine⟨b,hb,hr.keep hle (aE.le_refl _) fun hl=>?_⟩
  have hk:=kW (F:=F) (w:=w) (own:=fun _=>False) hB hb hl (fun h=>h)
  have hlt:=hr.lt hl
  obtain⟨o,ho⟩:∃o,w.heap[b.blk]? =some o:=⟨_,Array.getElem?_eq_getElem hlt⟩
  refine⟨by rw[hf b.blk o (hk.trans ho),ho],?_⟩
  rw[(hr.off hl).1]
  rcases hd b.blk with h|h
  ·exact h
  ·rw[hk,ho] at h;cases h
theorem aj.of_pure {f:FuncId} {args:List AV} {R:AV->Prop} {K:AV->ag->Prop} {n:Nat} (h:ah P f args R) (hp:args.all (dl n)=true) (hk:∀u,R u->K u M):aj P f args M K:=by
 rw[ce]
 rw[dM] at h
 refine⟨h.1,?_⟩
 intro S F ρ vs w hM hv
 refine(h.2 S (eE F ρ M w (fun _=>False)) vs w hM.gl hM.sw (mZ hM) (oV hM) (vd hp hv)).mono ?_
 rintro e w' ⟨v,u,S',rfl,hR,hle,hs,hf,hd,hr,hw⟩
 exact⟨v,u,M,S',ρ,rfl,hk u hR,hle,aE.le_refl _,hM.behind hle hs hf hd, .p hr,hw⟩
theorem aj.mono {f:FuncId} {args:List AV} {R R':AV->ag->Prop} (h:aj P f args M R) (hr:∀u M,R u M->R' u M):aj P f args M R':=by
 simp only[ce] at*
 refine⟨h.1,?_⟩
 intro S F ρ vs w hM hv
 exact(h.2 S F ρ vs w hM hv).mono fun e w' ⟨v,u,M',S',ρ',a,b,c⟩=>⟨v,u,M',S',ρ',a,hr _ _ b,c⟩
theorem ah.mono {f:FuncId} {args:List AV} {R R':AV->Prop} (h:ah P f args R) (hr:∀u,R u->R' u):ah P f args R':=by
 simp only[dM] at*
 refine⟨h.1,?_⟩
 intro S F vs w h0 h1 h2 h3 hv
 exact(h.2 S F vs w h0 h1 h2 h3 hv).mono fun e w' ⟨v,u,S',a,b,c⟩=>⟨v,u,S',a,hr _ b,c⟩
theorem aj.weaken {f:FuncId} {args args':List AV} {R:AV->ag->Prop} (h:aj P f args' M R)
  (hw:∀S F ρ vs w,aD S F ρ M w->bk S ρ vs args->bk S ρ vs args'):aj P f args M R:=by
 simp only[ce] at*
 refine⟨h.1,?_⟩
 intro S F ρ vs w hM hv
 exact h.2 S F ρ vs w hM (hw S F ρ vs w hM hv)
theorem aj.leak {f:FuncId} {args:List AV} {R:AV->ag->Prop} {ℓ:Nat} {t:TypeId} {α:Type} {d:α} {enc:α->List AV} {l:List α} (hl:M ℓ=some (.row t d enc l))
  (h:aj P f args (M.set ℓ (.gone d enc l)) R):aj P f args M R:=by
 simp only[ce] at*
 refine⟨h.1,?_⟩
 intro S F ρ vs w hM hv
 obtain⟨S',b,hle,hb,hM',_⟩:=hM.leak hl
 refine(h.2 S' F ρ vs w hM' (hv.mono hle (aE.le_refl _))).mono ?_
 rintro e w' ⟨v,u,M',S'',ρ',a,b,c,r⟩
 exact⟨v,u,M',S'',ρ',a,b,ai.le_trans hle c,r⟩
end
end
section
inductive LM
 |old (ℓ:Nat)
 |nil (sz:Nat)
abbrev bc:=List (Nat×LM)
def aq:bc->Nat->Option LM
 |[],_=>none
 |(k,x)::r,ℓ=>match Nat.beq k ℓ with|true=>some x|false=>aq r ℓ
def ag.ofL:List (Nat×bf)->ag
 |[],_=>Option.none
 |(k,B)::r,ℓ=>match Nat.beq k ℓ with|true=>some B|false=>ag.ofL r ℓ
mutual
def oW (lm:bc):Nat->AV->AV->Prop
 |0,_,_=>False
 |n+1,u,v=>match v with
  | .top=>True
  | .ptr ℓ' o'=>match u with
   | .ptr ℓ o=>match aq lm ℓ' with
    |some (.old m)=>match Nat.beq m ℓ with|true=>o=o'|false=>False
    |_=>False
   |_=>False
  | .row ℓ' n' sz'=>match u with
   | .row ℓ n sz=>match aq lm ℓ' with
    |some (.old m)=>match Nat.beq m ℓ,Nat.beq sz sz' with
     |true,true=>n=n'
     |_,_=>False
    |_=>False
   | .nilsl=>match aq lm ℓ' with
    |some (.nil sz)=>match Nat.beq sz sz' with
     |true=>0=n'
     |false=>False
    |_=>False
   |_=>False
  | .rel ℓ' i' o'=>match u with
   | .rel ℓ i o=>match aq lm ℓ' with
    |some (.old m)=>match Nat.beq m ℓ with|true=>i=i'/\o=o'|false=>False
    |_=>False
   |_=>False
  | .part ℓ' lo' n' sz'=>match u with
   | .part ℓ lo n sz=>match aq lm ℓ' with
    |some (.old m)=>match Nat.beq m ℓ with|true=>lo=lo'/\n=n'/\sz=sz'|false=>False
    |_=>False
   |_=>False
  | .mp ℓ'=>match u with
   | .mp ℓ=>match aq lm ℓ' with
    |some (.old m)=>match Nat.beq m ℓ with|true=>True|false=>False
    |_=>False
   |_=>False
  | .fn f' cs'=>match u with
   | .fn f cs=>match Nat.beq f f' with|true=>i3 lm n cs cs'|false=>False
   |_=>False
  | .agg cs'=>match u with
   | .agg cs=>i3 lm n cs cs'
   |_=>False
  | .tup cs'=>match u with
   | .tup cs=>i3 lm n cs cs'
   |_=>False
  | .int k' m'=>match u with
   | .int k m=>match Nat.beq (kn k) (kn k') with|true=>m=m'|false=>False
   |_=>False
  | .bool b'=>match u with
   | .bool b=>b=b'
   |_=>False
  | .sl d enc l=>match u with
   | .nilsl=>l=[]
   |u=>u= .sl d enc l
  |v=>u=v
def i3 (lm:bc):Nat->List AV->List AV->Prop
 |0,_,_=>False
 |n+1,us,vs=>match us,vs with
  |[],[]=>True
  |u::us,v::vs=>match v with
   | .top=>i3 lm n us vs
   |v=>oW lm n u v/\i3 lm n us vs
  |_,_=>False
end
def nB (lm:bc) (n:Nat):Option bf->bf->Prop
 |some _, .dead=>True
 |none, .dead=>False
 |some (.box t cs), .box t' cs'=>match Nat.beq t t' with|true=>i3 lm n cs cs'|false=>False
 |some (.row t d enc l), .row t' d' enc' l'=>bf.row t d enc l=bf.row t' d' enc' l'
 |some (.gone d enc l), .gone d' enc' l'=>bf.gone d enc l=bf.gone d' enc' l'
 |some (.iter s p), .iter s' p'=>s=s'/\p=p'
 |some (.map ek ev l), .map ek' ev' l'=>bf.map ek ev l=bf.map ek' ev' l'
 |some (.obj o), .obj o'=>o=o'
 |_,_=>False
def bG (lm:bc) (n:Nat) (M:ag):List (Nat×bf)->Prop
 |[]=>True
 |(ℓ',B')::r=>(match aq lm ℓ' with
  |some (.old ℓ)=>nB lm n (M ℓ) B'
  |some (.nil _)=>match B' with
   | .row _ _ _ l=>l=[]
   |_=>False
  |none=>False)/\bG lm n M r
def fA (lm:bc) (L:List (Nat×bf)):Bool:=lm.all fun p=>(ag.ofL L p.1).isSome
def oX:bc->Bool
 |[]=>true
 |(_, .old ℓ)::r=>r.all (fun p=>match p.2 with| .old m=>!(Nat.beq m ℓ)| .nil _=>true)&&oX r
 |(_, .nil _)::r=>oX r
def ik (L:List (Nat×bf)) (k:Nat):Bool:=match ag.ofL L k with
 |some .dead=>false
 |_=>true
def eG (L:List (Nat×bf)) (lm:bc):Bool:=oX (lm.filter fun p=>ik L p.1)
def ve (lm:bc) (D:List Nat):Bool:=D.all fun d=>match aq lm d with|some (.old m)=>Nat.beq m d|_=>false
def Cj:bc->Bool
 |[]=>true
 |(k,_)::r=>r.all (fun p=>!(Nat.beq p.1 k))&&Cj r
def bQ (lm:bc) (ρ:aE):aE:=fun ℓ'=>match aq lm ℓ' with
 |some (.old ℓ)=>ρ ℓ
 |some (.nil sz)=>some ⟨0,0,0,sz,true⟩
 |none=>none
section
variable {S F:ai} {ρ:aE} {M:ag} {w:World} {lm:bc}
theorem eU:∀(n:Nat),(∀(u v:AV) (x:Value),oW lm n u v->RV S ρ x u->RV S (bQ lm ρ) x v)/\(∀(us vs:List AV) (xs:List Value),i3 lm n us vs->bk S ρ xs us->bk S (bQ lm ρ) xs vs):=by
 intro n
 induction n with
 |zero=>exact⟨fun u v x h=>by simp[oW] at h,fun us vs xs h=>by simp[i3] at h⟩
 |succ n ih=>
  refine⟨fun u v x h hx=>?_,fun us vs xs h hx=>?_⟩
  ·have pers:∀{v:AV},u=v->(∀{y},RV S ρ y v->RP S y v)->RV S (bQ lm ρ) x v:=fun e hp=>by subst e;exact .p (hp hx)
   cases v with
   |top=>exact .p (.top _)
   |ptr ℓ' o'=>
    simp only[oW] at h
    split at h
    ·split at h
     ·rename_i ℓ o m hm
      split at h
      ·rename_i hb
       have:=Nat.eq_of_beq_eq_true hb
       subst this;subst h
       obtain⟨b,hb,rfl⟩:=hx.ptr_inv
       exact .ptr _ _ b (by unfold bQ;rw[hm];exact hb)
      ·exact h.elim
     ·exact h.elim
    ·exact h.elim
   |row ℓ' n' sz'=>
    simp only[oW] at h
    split at h
    ·split at h
     ·rename_i ℓ k sz m hm
      split at h
      ·rename_i hb hs
       have:=Nat.eq_of_beq_eq_true hb
       subst this
       have:=Nat.eq_of_beq_eq_true hs
       subst this;subst h
       obtain⟨b,hb,h1,h2,h3,rfl⟩:=hx.row_inv
       exact .row _ _ _ b (by unfold bQ;rw[hm];exact hb) h1 h2 h3
      ·exact h.elim
     ·exact h.elim
    ·split at h
     ·rename_i sz hm
      split at h
      ·rename_i hs
       have:=Nat.eq_of_beq_eq_true hs
       subst this;subst h
       rw[hx.nilsl_inv]
       have:=RV.row (S:=S) (ρ:=bQ lm ρ) ℓ' 0 sz ⟨0,0,0,sz,true⟩ (by unfold bQ;rw[hm]) rfl rfl (fun _=>rfl)
       exact this
      ·exact h.elim
     ·exact h.elim
    ·exact h.elim
   |rel ℓ' i' o'=>
    simp only[oW] at h
    split at h
    ·split at h
     ·rename_i ℓ i o m hm
      split at h
      ·rename_i hb
       have:=Nat.eq_of_beq_eq_true hb
       subst this
       obtain⟨rfl,rfl⟩:=h
       obtain⟨b,hb,h1,rfl⟩:=hx.rel_inv
       exact .rel _ _ _ b (by unfold bQ;rw[hm];exact hb) h1
      ·exact h.elim
     ·exact h.elim
    ·exact h.elim
   |part ℓ' lo' n' sz'=>
    simp only[oW] at h
    split at h
    ·split at h
     ·rename_i ℓ lo n sz m hm
      split at h
      ·rename_i hb
       have:=Nat.eq_of_beq_eq_true hb
       subst this
       obtain⟨rfl,rfl,rfl⟩:=h
       obtain⟨b,a,c,hb,h1,h2,h3,rfl⟩:=hx.part_inv
       exact .part _ _ _ _ b a c (by unfold bQ;rw[hm];exact hb) h1 h2 h3
      ·exact h.elim
     ·exact h.elim
    ·exact h.elim
   |mp ℓ'=>
    simp only[oW] at h
    split at h
    ·split at h
     ·rename_i ℓ m hm
      split at h
      ·rename_i hb
       have:=Nat.eq_of_beq_eq_true hb
       subst this
       obtain⟨b,hb,rfl⟩:=hx.mp_inv
       exact .mp _ b (by unfold bQ;rw[hm];exact hb)
      ·exact h.elim
     ·exact h.elim
    ·exact h.elim
   |fn f' cs'=>
    simp only[oW] at h
    split at h
    ·rename_i f cs
     split at h
     ·rename_i hf
      have:=Nat.eq_of_beq_eq_true hf
      subst this
      obtain⟨vs,rfl,hv⟩:=hx.fn_inv
      have:=RV.fn_mk f (ih.2 cs cs' vs.toList h hv)
      simpa using this
     ·exact h.elim
    ·exact h.elim
   |agg cs'=>
    simp only[oW] at h
    split at h
    ·rename_i cs
     obtain⟨vs,rfl,hv⟩:=hx.agg_inv
     have:=RV.agg_mk (ih.2 cs cs' vs.toList h hv)
     simpa using this
    ·exact h.elim
   |tup cs'=>
    simp only[oW] at h
    split at h
    ·rename_i cs
     obtain⟨vs,rfl,hv⟩:=hx.tup_inv
     have:=RV.tup_mk (ih.2 cs cs' vs.toList h hv)
     simpa using this
    ·exact h.elim
   |int k' m'=>
    simp only[oW] at h
    split at h
    ·split at h
     ·rename_i hk
      have:=Fp hk
      subst this;subst h
      rw[hx.int_inv]
      exact .p (.int _ _)
     ·exact h.elim
    ·exact h.elim
   |bool b'=>
    simp only[oW] at h
    split at h
    ·subst h
     rw[hx.bool_inv]
     exact .p (.bool _)
    ·exact h.elim
   |sl d enc l=>
    simp only[oW] at h
    split at h
    ·subst h
     rw[hx.nilsl_inv]
     exact .p (.sl d enc [] none 0 0 (fun _ _=>undef) (by simp) (by simp) (by simp) (by simp) (by simp) (by simp))
    ·exact pers h fun hy=>hy.sl_inv
   |str s=>simp only[oW] at h;exact pers h fun hy=>by rw[hy.str_inv];exact .str _
   |nilsl=>simp only[oW] at h;exact pers h fun hy=>by rw[hy.nilsl_inv];exact .nilsl
   |val y=>simp only[oW] at h;exact pers h fun hy=>by rw[hy.val_inv];exact .val _
   |slc d enc l=>simp only[oW] at h;exact pers h fun hy=>hy.slc_inv
   |pd c=>simp only[oW] at h;exact pers h fun hy=>hy.pd_inv
  ·simp only[i3] at h
   split at h
   ·rw[hx.nil_inv];exact bk.nil _ _
   ·rename_i u us v vs
    obtain⟨y,ys,rfl,hy,hys⟩:=hx.cons_inv
    split at h
    ·exact bk.cons (.p (.top _)) (ih.2 us vs ys h hys)
    ·exact bk.cons (ih.1 u v y h.1 hy) (ih.2 us vs ys h.2 hys)
   ·exact h.elim
theorem fR:∀{L:List (Nat×bf)} {ℓ:Nat} {B:bf},ag.ofL L ℓ=some B->(ℓ,B)∈L
 |[],_,_,h=>by simp[ag.ofL] at h
 |(k,C)::r,ℓ,B,h=>by
  simp only[ag.ofL] at h
  split at h
  ·rename_i hk
   have:=Nat.eq_of_beq_eq_true hk
   subst this
   cases h;exact List.mem_cons_self
  ·exact List.mem_cons_of_mem _ (fR h)
theorem oY {n:Nat}:∀{L:List (Nat×bf)},bG lm n M L->∀ℓ' B',(ℓ',B')∈L->(match aq lm ℓ' with
  |some (.old ℓ)=>nB lm n (M ℓ) B'
  |some (.nil _)=>match B' with
   | .row _ _ _ l=>l=[]
   |_=>False
  |none=>False)
 |[],_,_,_,h=>by cases h
 |(k,C)::r,h,ℓ',B',hm=>by
  rcases List.mem_cons.1 hm with e|hm
  ·injection e with e1 e2;subst e1;subst e2;exact h.1
  ·exact oY h.2 ℓ' B' hm
theorem bd:∀{lm:bc} {ℓ:Nat} {x:LM},aq lm ℓ=some x->(ℓ,x)∈lm
 |[],_,_,h=>by simp[aq] at h
 |(k,y)::r,ℓ,x,h=>by
  simp only[aq] at h
  split at h
  ·rename_i hk
   have:=Nat.eq_of_beq_eq_true hk
   subst this
   cases h;exact List.mem_cons_self
  ·exact List.mem_cons_of_mem _ (bd h)
theorem sS:∀{lm:bc},oX lm=true->∀{a b ℓ:Nat},aq lm a=some (.old ℓ)->aq lm b=some (.old ℓ)->a=b
 |[],_,_,_,_,h,_=>by simp[aq] at h
 |(k,x)::r,ho,a,b,ℓ,ha,hb=>by
  have hr:oX r=true:=by
   cases x with
   |old m=>simp only[oX,Bool.and_eq_true] at ho;exact ho.2
   |nil _=>simpa only[oX] using ho
  have far:∀{c:Nat},x= .old ℓ->aq r c=some (.old ℓ)->False:=by
   intro c hx hc
   subst hx
   simp only[oX,Bool.and_eq_true] at ho
   have:=List.all_eq_true.1 ho.1 _ (bd hc)
   simp at this
  simp only[aq] at ha hb
  split at ha
  ·rename_i hka
   split at hb
   ·rename_i hkb
    rw[<-Nat.eq_of_beq_eq_true hka,<-Nat.eq_of_beq_eq_true hkb]
   ·cases ha;exact(far rfl hb).elim
  ·split at hb
   ·cases hb;exact(far rfl ha).elim
   ·exact sS hr ha hb
theorem kg {L:List (Nat×bf)} {a:Nat} (ha:ik L a=true):∀{lm:bc} {x:LM},aq lm a=some x->aq (lm.filter fun p=>ik L p.1) a=some x
 |[],_,h=>by simp[aq] at h
 |(k,y)::r,x,h=>by
  simp only[aq] at h
  split at h
  ·rename_i hk
   have:=Nat.eq_of_beq_eq_true hk
   subst this
   cases h
   rw[List.filter_cons_of_pos (by exact ha)]
   simp[aq]
  ·rename_i hk
   have ih:=kg ha h
   by_cases hp:ik L k=true
   ·rw[List.filter_cons_of_pos (by exact hp)]
    simp only[aq,hk]
    exact ih
   ·rw[List.filter_cons_of_neg (by exact hp)]
    exact ih
theorem oZ {L:List (Nat×bf)} {k:Nat} {B:bf} {b:fh} (h:ag.ofL L k=some B) (hl:B.live b):ik L k=true:=by
 unfold ik
 rw[h]
 cases B<;>first|rfl|exact hl.elim
theorem aD.relabel (hM:aD S F ρ M w) {L:List (Nat×bf)} {n:Nat} (hm:bG lm n M L) (hk:fA lm L=true) (ho:eG L lm=true):aD S F (bQ lm ρ) (ag.ofL L) w:=by
 have live:∀ℓ' B',ag.ofL L ℓ'=some B'->∀b,bQ lm ρ ℓ'=some b->B'.live b->∃ℓ B,aq lm ℓ'=some (.old ℓ)/\M ℓ=some B/\ρ ℓ=some b/\B.live b:=by
  intro ℓ' B' hB' b hb hl
  have h:=oY hm ℓ' B' (fR hB')
  unfold bQ at hb
  split at h
  ·rename_i ℓ hf
   rw[hf] at hb
   simp only at hb
   unfold nB at h
   split at h
   ·exact hl.elim
   ·exact h.elim
   ·rename_i t cs t' cs' hML
    exact⟨ℓ,_,hf,hML,hb,trivial⟩
   ·rename_i t α d enc l t' α' d' enc' l' hML
    refine⟨ℓ,_,hf,hML,hb,?_⟩
    rw[h];exact hl
   ·exact hl.elim
   ·rename_i s p s' p' hML
    exact⟨ℓ,_,hf,hML,hb,trivial⟩
   ·rename_i hML
    exact⟨ℓ,_,hf,hML,hb,trivial⟩
   ·rename_i hML
    exact⟨ℓ,_,hf,hML,hb,trivial⟩
   ·exact h.elim
  ·rename_i sz hf
   rw[hf] at hb
   simp only[Option.some.injEq] at hb
   subst hb
   split at h
   ·simp[bf.live] at hl
   ·exact h.elim
  ·exact h.elim
 refine⟨hM.sw,hM.fw,hM.sf,fun ℓ' b hb=>?_,fun ℓ' B' hB'=>?_,fun x y B C b c h1 h2 h3 h4 h5 h6 hne=>?_,hM.gl⟩
 ·cases hf:aq lm ℓ' with
  |none=>unfold bQ at hb;rw[hf] at hb;cases hb
  |some x=>
   have:=List.all_eq_true.1 hk _ (bd hf)
   intro h
   simp only at this
   rw[h] at this;cases this
 ·have h:=oY hm ℓ' B' (fR hB')
  split at h
  ·rename_i ℓ hf
   have he:bQ lm ρ ℓ'=ρ ℓ:=by unfold bQ;rw[hf]
   unfold nB at h
   split at h
   ·rename_i hML
    obtain⟨b,hb,hr⟩:=hM.blk _ _ hML
    exact⟨b,he.trans hb,trivial⟩
   ·exact h.elim
   ·rename_i t cs t' cs' hML
    split at h
    ·rename_i ht
     have:=Nat.eq_of_beq_eq_true ht
     subst this
     obtain⟨b,hb,vs,h1,h2,h3⟩:=hM.blk _ _ hML
     exact⟨b,he.trans hb,vs,h1,(eU n).2 cs cs' _ h h2,h3⟩
    ·exact h.elim
   ·rename_i t α d enc l t' α' d' enc' l' hML
    obtain⟨b,hb,hr⟩:=hM.blk _ _ hML
    rw[h] at hr
    exact⟨b,he.trans hb,hr⟩
   ·rename_i α d enc l α' d' enc' l' hML
    obtain⟨b,hb,hr⟩:=hM.blk _ _ hML
    rw[h] at hr
    exact⟨b,he.trans hb,hr⟩
   ·rename_i s p s' p' hML
    obtain⟨rfl,rfl⟩:=h
    obtain⟨b,hb,hr⟩:=hM.blk _ _ hML
    exact⟨b,he.trans hb,hr⟩
   ·rename_i hML
    obtain⟨b,hb,hr⟩:=hM.blk _ _ hML
    rw[h] at hr
    exact⟨b,he.trans hb,hr⟩
   ·rename_i hML
    obtain⟨b,hb,hr⟩:=hM.blk _ _ hML
    rw[h] at hr
    exact⟨b,he.trans hb,hr⟩
   ·exact h.elim
  ·rename_i sz hf
   split at h
   ·subst h
    exact⟨⟨0,0,0,sz,true⟩,by unfold bQ;rw[hf],rfl,by simp, .inl ⟨rfl,rfl,rfl⟩⟩
   ·exact h.elim
  ·exact h.elim
 ·obtain⟨ℓ,B0,f1,m1,r1,l1⟩:=live x B h1 b h3 h5
  obtain⟨ℓ2,C0,f2,m2,r2,l2⟩:=live y C h2 c h4 h6
  refine hM.inj ℓ ℓ2 B0 C0 b c m1 m2 r1 r2 l1 l2 fun e=>?_
  subst e
  exact hne (sS ho (kg (oZ h1 h5) f1) (kg (oZ h2 h6) f2))
end
def bh (L:List (Nat×bf)) (M:ag):ag:=fun ℓ=>match ag.ofL L ℓ with
 |some B=>some B
 |none=>M ℓ
def Ck (lm lb:bc):Bool:=lm.all fun p=>match p.2 with
 | .old ℓ=>(match aq lb ℓ with|some (.old m)=>Nat.beq m p.1|_=>false)
 | .nil _=>true
def sT (lm lb:bc) (M:ag):Bool:=lb.all fun p=>(lm.any fun q=>match q.2 with| .old ℓ=>Nat.beq ℓ p.1| .nil _=>false)||(M p.1).isNone
section
variable {S F F2:ai} {ρ:aE} {M:ag} {w:World} {P:Program}
theorem dK.reF {b:fh} {B:bf} (h:dK S F ρ w b B) (hf:B.live b->F2 b.blk=none):dK S F2 ρ w b B:=by
 cases B with
 |box t cells=>obtain⟨vs,h1,h2,h3,h4⟩:=h;exact⟨vs,h1,h2,h3,hf trivial⟩
 |row t d enc l=>
  obtain⟨h1,h2,h3⟩:=h
  exact⟨h1,h2,h3.imp id fun⟨hn,hc,vs,h4,h5,h6,h7,h8⟩=>⟨hn,hc,vs,h4,h5,h6,h7,hf hn⟩⟩
 |gone d enc l=>exact h
 |iter s pos=>exact⟨h.1,h.2.1,hf trivial⟩
 |map ek ev l=>obtain⟨es,ck,h1,h2,h3,h4⟩:=h;exact⟨es,ck,h1,h2,h3,hf trivial⟩
 |obj o=>exact⟨h.1,h.2.1,hf trivial⟩
 |hdr t g m=>
  obtain⟨l,hlm,hg,h1,h2,h3⟩:=h
  exact⟨l,hlm,hg,h1,h2,h3.imp id fun⟨hn,hc,vs,h4,h5,h6,h7,h8⟩=>⟨hn,hc,vs,h4,h5,h6,h7,hf hn⟩⟩
 |dead=>trivial
theorem aD.reF (hM:aD S F ρ M w) (h1:F2.inW w) (h2:∀k,S k=none\/F2 k=none) (h3:∀ℓ B b,M ℓ=some B->ρ ℓ=some b->B.live b->F2 b.blk=none):aD S F2 ρ M w:=
 ⟨hM.sw,h1,h2,hM.dom,fun ℓ B hB=>let ⟨b,hb,hr⟩:=hM.blk ℓ B hB;⟨b,hb,hr.reF (h3 ℓ B b hB hb)⟩,hM.inj,hM.gl⟩
theorem nO:∀{lm:bc},Cj lm=true->∀{ℓ:Nat} {x:LM},(ℓ,x)∈lm->aq lm ℓ=some x
 |[],_,_,_,h=>by cases h
 |(k,y)::r,hd,ℓ,x,h=>by
  simp only[Cj,Bool.and_eq_true] at hd
  simp only[aq]
  rcases List.mem_cons.1 h with e|h
  ·injection e with e1 e2;subst e1;subst e2;simp
  ·have:=List.all_eq_true.1 hd.1 _ h
   simp only[Bool.not_eq_true'] at this
   have hne:Nat.beq k ℓ=false:=by
    cases hb:Nat.beq k ℓ
    ·rfl
    ·have:=Nat.eq_of_beq_eq_true hb;subst this;simp at*
   rw[hne]
   exact nO hd.2 h
theorem aj.call {f:FuncId} {args args':List AV} {K R:AV->ag->Prop} (lm:bc) (L:List (Nat×bf)) (n:Nat) (hs:(fA lm L&&eG L lm&&Cj lm)=true) (hm:bG lm n M L) (ha:i3 lm n args args')
  (h:aj P f args' (ag.ofL L) R)
  (hk:∀u M',R u M'->∃(lb:bc) (L2:List (Nat×bf)) (u':AV),(fA lb L2&&eG L2 lb&&Ck lm lb&&sT lm lb M)=true/\bG lb n M' L2/\oW lb n u u'/\K u' (bh L2 M)):aj P f args M K:=by
 rw[ce] at h⊢
 refine⟨h.1,fun S F ρ vs w hM hv=>?_⟩
 simp only[Bool.and_eq_true] at hs
 obtain⟨⟨hs1,hs2⟩,hs3⟩:=hs
 let own:Nat->Prop:=fun ℓ=>∃ℓ',aq lm ℓ'=some (.old ℓ)
 have hMr:=hM.relabel hm hs1 hs2
 have hlive:∀ℓ' B' b,ag.ofL L ℓ'=some B'->bQ lm ρ ℓ'=some b->B'.live b->eE F ρ M w own b.blk=none:=by
  intro ℓ' B' b hB' hb hl
  obtain⟨b',hb',hr'⟩:=hMr.blk _ _ hB'
  rw[hb] at hb';cases hb'
  have hFb:=(hr'.off hl).2
  have hh:=oY hm ℓ' B' (fR hB')
  unfold bQ at hb
  cases hf:aq lm ℓ' with
  |none=>rw[hf] at hb;cases hb
  |some x=>
   rw[hf] at hb hh
   cases x with
   |nil sz=>
    simp only[Option.some.injEq] at hb
    subst hb
    simp only at hh
    split at hh
    ·simp[bf.live] at hl
    ·exact hh.elim
   |old ℓ=>
    simp only at hb hh
    have hB:∃B,M ℓ=some B/\B.live b:=by
     unfold nB at hh
     split at hh
     ·exact hl.elim
     ·exact hh.elim
     ·rename_i hML;exact⟨_,hML,trivial⟩
     ·rename_i hML;exact⟨_,hML,by rw[hh];exact hl⟩
     ·exact hl.elim
     ·rename_i hML;exact⟨_,hML,trivial⟩
     ·rename_i hML;exact⟨_,hML,trivial⟩
     ·rename_i hML;exact⟨_,hML,trivial⟩
     ·exact hh.elim
    obtain⟨B,hML,hBl⟩:=hB
    unfold eE
    rw[if_neg]
    ·exact hFb
    ·rintro⟨y,C,c,h1,h2,h3,h4,h5⟩
     refine hM.inj y ℓ C B c b h1 hML h2 hb h3 hBl (fun e=>?_) h4
     subst e
     exact h5 ⟨ℓ',hf⟩
 have hMc:=hMr.reF (mZ (own:=own) hM) (oV hM) hlive
 refine(h.2 S (eE F ρ M w own) (bQ lm ρ) vs w hMc ((eU n).2 args args' vs ha hv)).mono ?_
 rintro e w' ⟨v,u,M',S',ρ',rfl,hR,hle,hρ,hM',hr,hw⟩
 obtain⟨lb,L2,u',hb,hm2,hau,hK⟩:=hk u M' hR
 simp only[Bool.and_eq_true] at hb
 obtain⟨⟨⟨hb1,hb2⟩,hb3⟩,hb4⟩:=hb
 have hM2:=hM'.relabel hm2 hb1 hb2
 let ρ2:aE:=fun ℓ=>match bQ lb ρ' ℓ with
  |some b=>some b
  |none=>ρ ℓ
 have hle1:aE.le (bQ lb ρ') ρ2:=fun ℓ b hb=>by show(match bQ lb ρ' ℓ with|some b=>some b|none=>ρ ℓ)=_;rw[hb]
 have hback:∀ℓ ℓ',aq lm ℓ'=some (.old ℓ)->aq lb ℓ=some (.old ℓ'):=by
  intro ℓ ℓ' hf
  have:=List.all_eq_true.1 hb3 _ (bd hf)
  simp only at this
  split at this
  ·rename_i m hm'
   rw[hm',Nat.eq_of_beq_eq_true this]
  ·cases this
 have hle2:aE.le ρ ρ2:=by
  intro ℓ b hb
  show(match bQ lb ρ' ℓ with|some b=>some b|none=>ρ ℓ)=_
  cases hf:aq lb ℓ with
  |none=>
   have:bQ lb ρ' ℓ=none:=by unfold bQ;rw[hf]
   rw[this];exact hb
  |some x=>
   have:=List.all_eq_true.1 hb4 _ (bd hf)
   simp only[Bool.or_eq_true] at this
   rcases this with h1|h1
   ·obtain⟨q,hq,hq2⟩:=List.any_eq_true.1 h1
    obtain⟨k,y⟩:=q
    cases y with
    |nil _=>cases hq2
    |old m=>
     simp only at hq2
     have:=Nat.eq_of_beq_eq_true hq2
     subst this
     have hfl:=nO hs3 hq
     have hbk:=hback _ _ hfl
     have he:bQ lm ρ k=some b:=by unfold bQ;rw[hfl];exact hb
     have h2:bQ lb ρ' m=some b:=by unfold bQ;rw[hbk];exact hρ _ _ he
     rw[h2]
   ·exfalso
    have hn:M ℓ=none:=by cases hh:M ℓ with
     |none=>rfl
     |some B=>simp[hh] at h1
    exact hM.dom ℓ b hb hn
 have hF:∀k o,F k=some o->eE F ρ M w own k=some o:=kv hM
 have framed:∀ℓ B b,ag.ofL L2 ℓ=none->M ℓ=some B->ρ ℓ=some b->B.live b->eE F ρ M w own b.blk=w.heap[b.blk]?:=by
  intro ℓ B b h0 h1 h2 h3
  refine kW h1 h2 h3 fun⟨ℓ',hf⟩=>?_
  have:=List.all_eq_true.1 hb1 _ (bd (hback _ _ hf))
  simp only at this
  rw[h0] at this;cases this
 refine⟨v,u',bh L2 M,S',ρ2,rfl,hK,hle,hle2,⟨hM'.sw,fun k o hk=>hM'.fw k o (hF k o hk),fun k=>?_,fun ℓ b hb=>?_,fun ℓ B hB=>?_,fun x y B C b c h1 h2 h3 h4 h5 h6 hne=>?_,hM'.gl⟩,((eU n).1 u u' v hau hr).mono (ai.le_refl _) hle1,hw⟩
 ·rcases hM'.sf k with h1|h1
  ·exact .inl h1
  ·right
   cases hk:F k with
   |none=>rfl
   |some o=>rw[hF k o hk] at h1;cases h1
 ·unfold bh
  cases h2:ag.ofL L2 ℓ with
  |some B=>simp
  |none=>
   have hb:(match bQ lb ρ' ℓ with|some b=>some b|none=>ρ ℓ)=some b:=hb
   cases h3:bQ lb ρ' ℓ with
   |some b'=>exact absurd h2 (hM2.dom _ _ h3)
   |none=>rw[h3] at hb;exact hM.dom _ _ hb
 ·unfold bh at hB
  cases h2:ag.ofL L2 ℓ with
  |some B'=>
   rw[h2] at hB
   cases hB
   obtain⟨b,hb,hr2⟩:=hM2.blk _ _ h2
   refine⟨b,hle1 _ _ hb,(hr2.keep (ai.le_refl _) hle1 fun _=>⟨rfl,rfl⟩).reF fun hl=>?_⟩
   have:=(hr2.off hl).2
   cases hk:F b.blk with
   |none=>rfl
   |some o=>rw[hF _ o hk] at this;cases this
  |none=>
   rw[h2] at hB
   obtain⟨b,hb,hr2⟩:=hM.blk _ _ hB
   refine⟨b,hle2 _ _ hb,hr2.keep hle hle2 fun hl=>?_⟩
   have hk:=framed ℓ B b h2 hB hb hl
   obtain⟨o,ho⟩:∃o,w.heap[b.blk]? =some o:=⟨_,Array.getElem?_eq_getElem (hr2.lt hl)⟩
   refine⟨by rw[hM'.fw _ o (hk.trans ho),ho],?_⟩
   rw[(hr2.off hl).1]
   rcases hM'.sf b.blk with h1|h1
   ·exact h1
   ·rw[hk,ho] at h1;cases h1
 ·have back:∀z D d,bh L2 M z=some D->ρ2 z=some d->D.live d->(ag.ofL L2 z=some D/\bQ lb ρ' z=some d)\/(ag.ofL L2 z=none/\M z=some D/\ρ z=some d):=by
   intro z D d hD hd hl
   unfold bh at hD
   cases hz:ag.ofL L2 z with
   |some D'=>
    rw[hz] at hD;cases hD
    obtain⟨b',hb',_⟩:=hM2.blk _ _ hz
    have:=hle1 _ _ hb'
    rw[hd] at this;cases this
    exact .inl ⟨rfl,hb'⟩
   |none=>
    rw[hz] at hD
    obtain⟨b',hb',_⟩:=hM.blk _ _ hD
    have:=hle2 _ _ hb'
    rw[hd] at this;cases this
    exact .inr ⟨rfl,hD,hb'⟩
  have mixed:∀z D d z' D' d',ag.ofL L2 z=some D->bQ lb ρ' z=some d->D.live d->ag.ofL L2 z'=none->M z'=some D'->ρ z'=some d'->D'.live d'->d.blk≠d'.blk:=by
   intro z D d z' D' d' a1 a2 a3 a4 a5 a6 a7 e
   obtain⟨b',hb',hr2⟩:=hM2.blk _ _ a1
   rw[a2] at hb';cases hb'
   have h1:=(hr2.off a3).2
   have h2:=framed z' D' d' a4 a5 a6 a7
   obtain⟨c',hc',hr3⟩:=hM.blk _ _ a5
   rw[a6] at hc';cases hc'
   rw[e,h2,Array.getElem?_eq_getElem (hr3.lt a7)] at h1
   cases h1
  rcases back x B b h1 h3 h5 with ⟨p1,p2⟩|⟨p0,p1,p2⟩<;>rcases back y C c h2 h4 h6 with ⟨q1,q2⟩|⟨q0,q1,q2⟩
  ·exact hM2.inj x y B C b c p1 q1 p2 q2 h5 h6 hne
  ·exact mixed x B b y C c p1 p2 h5 q0 q1 q2 h6
  ·exact fun e=>mixed y C c x B b q1 q2 h6 p0 p1 p2 h5 e.symm
  ·exact hM.inj x y B C b c p1 q1 p2 q2 h5 h6 hne
def jQ (ℓ:Nat) (u:AV):AV->AV
 | .row ℓ' n sz=>match Nat.beq ℓ' ℓ with|true=>u|false=> .row ℓ' n sz
 |v=>v
theorem jq {ℓ:Nat} {α:Type} {d:α} {enc:α->List AV} {l:List α} (hM:aD S F ρ M w) (hl:M ℓ=some (.gone d enc l)) {v:Value} {u:AV} (h:RV S ρ v u):RV S ρ v (jQ ℓ (.sl d enc l) u):=by
 unfold jQ
 split
 ·rename_i ℓ' n sz
  split
  ·rename_i hb
   have:=Nat.eq_of_beq_eq_true hb
   subst this
   obtain⟨b,hb,_,_,_,rfl⟩:=h.row_inv
   obtain⟨b',hb',_,hr⟩:=hM.blk _ _ hl
   rw[hb] at hb';cases hb'
   exact .p hr
  ·exact h
 ·exact h
def Cm (ℓ:Nat) (u:AV):AV->AV
 | .agg cs=> .agg (cs.map (jQ ℓ u))
 |v=>jQ ℓ u v
theorem yC {ℓ:Nat} {α:Type} {d:α} {enc:α->List AV} {l:List α} (hM:aD S F ρ M w) (hl:M ℓ=some (.gone d enc l)) {v:Value} {u:AV} (h:RV S ρ v u):RV S ρ v (Cm ℓ (.sl d enc l) u):=by
 unfold Cm
 split
 ·rename_i cs
  obtain⟨vs,rfl,hr⟩:=h.agg_inv
  have:bk S ρ vs.toList (cs.map (jQ ℓ (.sl d enc l))):=⟨by simpa using hr.1,fun i u hu=>by
   rw[List.getElem?_map] at hu
   obtain⟨u0,h0,rfl⟩:=Option.map_eq_some_iff.1 hu
   obtain⟨v,hv,hvr⟩:=hr.2 i u0 h0
   exact⟨v,hv,jq hM hl hvr⟩⟩
  have:=RV.agg_mk this
  simpa using this
 ·exact jq hM hl h
theorem aj.handB {f:FuncId} {args:List AV} {R:AV->ag->Prop} (ℓ:Nat) {t:TypeId} {α:Type} {d:α} {enc:α->List AV} {l:List α} (hl:M ℓ=some (.row t d enc l))
  (h:aj P f (args.map (Cm ℓ (.sl d enc l))) (M.set ℓ (.gone d enc l)) R):aj P f args M R:=by
 refine aj.leak hl (aj.weaken h fun S F ρ vs w hM hv=>⟨by simpa using hv.1,fun i u hu=>?_⟩)
 rw[List.getElem?_map] at hu
 obtain⟨u0,h0,rfl⟩:=Option.map_eq_some_iff.1 hu
 obtain⟨v,e,hr⟩:=hv.2 i u0 h0
 exact⟨v,e,yC hM (ag.set_eq _ _ _) hr⟩
theorem aj.hand {f:FuncId} {args:List AV} {R:AV->ag->Prop} (ℓ:Nat) {t:TypeId} {α:Type} {d:α} {enc:α->List AV} {l:List α} (hl:M ℓ=some (.row t d enc l))
  (h:aj P f (args.map (jQ ℓ (.sl d enc l))) (M.set ℓ (.gone d enc l)) R):aj P f args M R:=by
 refine aj.leak hl (aj.weaken h fun S F ρ vs w hM hv=>⟨by simpa using hv.1,fun i u hu=>?_⟩)
 rw[List.getElem?_map] at hu
 obtain⟨u0,h0,rfl⟩:=Option.map_eq_some_iff.1 hu
 obtain⟨v,e,hr⟩:=hv.2 i u0 h0
 exact⟨v,e,jq hM (ag.set_eq _ _ _) hr⟩
end
end
section
def wL:List AV->Nat->(AV->Prop)->Prop
 |[],_,k=>k .top
 |v::_,0,k=>k v
 |_::l,n+1,k=>wL l n k
theorem m0:∀(l:List AV) (n:Nat) (k:AV->Prop),wL l n k=k (l.getD n .top)
 |[],_,_=>by simp[wL]
 |_::_,0,_=>by simp[wL]
 |_::l,n+1,k=>by rw[wL,m0 l n k];simp
def nC:List AV->Nat->AV->(List AV->Prop)->Prop
 |[],_,_,k=>k []
 |_::l,0,v,k=>k (v::l)
 |x::l,n+1,v,k=>nC l n v fun l'=>k (x::l')
theorem wM:∀(l:List AV) (n:Nat) (v:AV) (k:List AV->Prop),nC l n v k=k (l.set n v)
 |[],_,_,_=>by simp[nC]
 |_::_,0,_,_=>by simp[nC]
 |_::l,n+1,v,k=>by rw[nC,wM l n v];simp
def mf (fr:List AV) (d:Option Tmp) (u:AV) (k:List AV->Prop):Prop:=
 match d with
 |some d=>nC fr d u k
 |none=>k fr
def cA (fr:List AV) (d:Option Tmp) (u:AV):List AV:=
 match d with
 |some d=>fr.set d u
 |none=>fr
theorem fj (fr:List AV) (d:Option Tmp) (u:AV) (k:List AV->Prop):mf fr d u k=k (cA fr d u):=by
 cases d<;>simp[mf,cA,wM]
def AO (v:Value) (k:AV->Prop):Prop:=
 match v with
 | .int i n=>k (.int i n)
 | .bool b=>k (.bool b)
 | .string s=>k (.str s)
 | .slice none 0 0=>k .nilsl
 |v=>k (.val v)
theorem DU (v:Value) (k:AV->Prop):AO v k=k (dx v):=by
 unfold AO dx
 split<;>simp
def Pn (fr:List AV) (x:Operand) (k:AV->Prop):Prop:=
 match x with
 | .tmp t=>wL fr t k
 | .const v=>AO v k
 | .func f=>k (.fn f [])
 | .global g=>k (.val (.pointer (some ⟨g,0,none⟩)))
def cY (fr:List AV):Operand->AV
 | .tmp t=>fr.getD t .top
 | .const v=>dx v
 | .func f=> .fn f []
 | .global g=> .val (.pointer (some ⟨g,0,none⟩))
theorem wN (fr:List AV) (x:Operand) (k:AV->Prop):Pn fr x k=k (cY fr x):=by
 cases x<;>simp[Pn,cY,m0,DU]
def AP (fr:List AV):List Operand->(List AV->Prop)->Prop
 |[],k=>k []
 |x::xs,k=>Pn fr x fun u=>AP fr xs fun us=>k (u::us)
theorem fS (fr:List AV):∀(xs:List Operand) (k:List AV->Prop),AP fr xs k=k (xs.map (cY fr))
 |[],_=>rfl
 |x::xs,k=>by rw[AP,wN,fS fr xs];rfl
def FS:List AV->List AV->(List AV->Prop)->Prop
 |[],r,k=>k r
 |x::l,r,k=>FS l r fun l'=>k (x::l')
theorem m4:∀(l r:List AV) (k:List AV->Prop),FS l r k=k (l++r)
 |[],_,_=>rfl
 |x::l,r,k=>by rw[FS,m4 l r];rfl
structure sU (P:Program) (f:FuncId) (args:List AV) (K:AV->Prop):Prop where
 out:∃R n,ah P f args R/\args.all (dl n)=true/\(∃u,R u)/\∀u,R u->K u
theorem fk {P:Program} {f:FuncId} {args:List AV} {K:AV->Prop}:sU P f args K↔(∃R n,ah P f args R/\args.all (dl n)=true/\(∃u,R u)/\∀u,R u->K u):=⟨fun h=>h.out,fun h=>⟨h⟩⟩
theorem FT {P:Program} {f:FuncId} {args:List AV} {K:AV->Prop} {R:AV->Prop} (n:Nat) (h:ah P f args R) (hp:args.all (dl n)=true) (he:∃u,R u) (hk:∀u,R u->K u):sU P f args K:=by
 rw[fk];exact⟨R,n,h,hp,he,hk⟩
inductive aL
 |any
 |rows
 |pers
 |fresh
 |flat
 |own
 |boxes (as:List (Nat×Nat))
structure mg (P:Program) (f:FuncId) (args:List AV) (M:ag) (K:AV->ag->Prop):Prop where
 out:∃(R:AV->ag->Prop) (n:Nat) (lb:bc) (L2:List (Nat×bf)) (u':AV),aj P f args (ag.ofL []) R/\i3 [] n args args/\(fA lb L2&&eG L2 lb&&Ck [] lb&&sT [] lb M)=true/\L2.all (fun p=>(M p.1).isNone)=true/\
  (∀u M',R u M'->bG lb n M' L2/\oW lb n u u')/\K u' (bh L2 M)
theorem mg.spec {P:Program} {f:FuncId} {args:List AV} {M:ag} {K:AV->ag->Prop} (h:mg P f args M K):aj P f args M K:=by
 obtain⟨R,n,lb,L2,u',hs,ha,hb,hf,hr,hk⟩:=h.out
 exact aj.call [] [] n rfl trivial ha hs fun u M' hR=>⟨lb,L2,u',hb,(hr u M' hR).1,(hr u M' hR).2,hk⟩
theorem mg.mono {P:Program} {f:FuncId} {args:List AV} {M:ag} {K K':AV->ag->Prop} (h:mg P f args M K) (hk:∀u M',K u M'->K' u M'):mg P f args M K':=by
 obtain⟨R,n,lb,L2,u',hs,ha,hb,hf,hr,hK⟩:=h.out
 exact⟨R,n,lb,L2,u',hs,ha,hb,hf,hr,hk _ _ hK⟩
theorem yD:∀{L:List (Nat×bf)} {p:Nat×bf},p∈L->ag.ofL L p.1≠none
 |[],_,h=>by cases h
 |(k,B)::r,p,h=>by
  simp only[ag.ofL]
  split
  ·simp
  ·rename_i hk
   rcases List.mem_cons.1 h with e|h
   ·have e1:p.1=k:=by rw[e]
    rw[e1,Nat.beq_refl] at hk
    cases hk
   ·exact yD h
theorem DV {L:List (Nat×bf)} {M:ag} {d:Nat} (B:bf) (h:ag.ofL L d=none):bh L (M.set d B)=(bh L M).set d B:=by
 funext x
 by_cases e:x=d
 ·subst e;rw[ag.set_eq];unfold bh;rw[h,ag.set_eq]
 ·rw[ag.set_ne _ _ e];unfold bh;rw[ag.set_ne _ _ e]
theorem mg.beside {P:Program} {f:FuncId} {args:List AV} {M:ag} {K:AV->ag->Prop} {d:Nat} {B:bf} (h:mg P f args M fun u M1=>M1 d=none/\K u (M1.set d B)):M d=none/\mg P f args (M.set d B) K:=by
 obtain⟨R,n,lb,L2,u',hs,ha,hb,hf,hr,hd,hk⟩:=h.out
 have hL:ag.ofL L2 d=none:=by
  cases hh:ag.ofL L2 d with
  |none=>rfl
  |some B'=>unfold bh at hd;rw[hh] at hd;cases hd
 have hMd:M d=none:=by unfold bh at hd;rw[hL] at hd;exact hd
 simp only[Bool.and_eq_true] at hb
 obtain⟨⟨⟨hb1,hb2⟩,hb3⟩,hb4⟩:=hb
 have far:∀k,ag.ofL L2 k≠none->(M k).isNone=true->((M.set d B) k).isNone=true:=by
  intro k h1 h2
  rw[ag.set_ne _ _ (fun e=>h1 (by rw[e];exact hL))]
  exact h2
 refine⟨hMd,⟨R,n,lb,L2,u',hs,ha,?_,?_,hr,?_⟩⟩
 ·simp only[Bool.and_eq_true]
  refine⟨⟨⟨hb1,hb2⟩,hb3⟩,?_⟩
  unfold sT at hb4⊢
  rw[List.all_eq_true] at hb4⊢
  intro p hp
  have:=hb4 p hp
  simp only[List.any_nil,Bool.false_or] at this⊢
  have hkey:=List.all_eq_true.1 hb1 p hp
  exact far _ (fun e=>by rw[e] at hkey;cases hkey) this
 ·rw[List.all_eq_true] at hf⊢
  intro p hp
  exact far _ (yD hp) (hf p hp)
 ·rw[DV B hL];exact hk
def Qz:List (Nat×Nat)->Nat->Option Nat
 |[],_=>none
 |(t,ℓ)::r,n=>match Nat.beq n t with
  |true=>some ℓ
  |false=>Qz r n
def iU (as:List (Nat×Nat)):Operand->Option Nat
 | .tmp t=>Qz as t
 |_=>none
def vf (as:List (Nat×Nat)) (x:Operand):AV->Bool
 | .ptr ℓ _=>match iU as x with
  |some ℓ'=>Nat.beq ℓ ℓ'
  |none=>false
 |_=>false
def yE (r:aL) (P:Program) (f:FuncId) (args:List AV) (M:ag) (K:AV->ag->Prop):Prop:=
 match r with
 | .fresh=>mg P f args M K
 | .own=>aj P f args M K
 |_=>sU P f args fun u=>K u M
def AQ:aL->Bool
 | .flat=>true
 |_=>false
def gq:aL->Bool
 | .own=>true
 |_=>false
def cr:aL->Bool
 | .fresh=>true
 |_=>false
theorem jR {r:aL} (h:cr r=true) (P:Program) (f:FuncId) (args:List AV) (M:ag) (K:AV->ag->Prop):yE r P f args M K=mg P f args M K:=by
 cases r<;>first|rfl|cases h
theorem Cn {r:aL} (h:gq r=true) (P:Program) (f:FuncId) (args:List AV) (M:ag) (K:AV->ag->Prop):yE r P f args M K=aj P f args M K:=by
 cases r<;>first|rfl|cases h
theorem jS {r:aL} (h:cr r=false) (ho:gq r=false) (P:Program) (f:FuncId) (args:List AV) (M:ag) (K:AV->ag->Prop):yE r P f args M K=sU P f args fun u=>K u M:=by
 cases r<;>first|rfl|exact absurd h (by decide)|exact absurd ho (by decide)
def m5 (draw:Option aL) (tt:TT) (op:Op) (us:List AV) (M:ag):Rs:=
 match draw with
 |some .rows=>match op with
  | .load t _=>match us with
   |[.rel _ _ _]=> .no
   |[x]=>gm tt t M x
   |_=> .no
  |op=>uC tt op us
 |some .pers=>match op with
  | .load t _=>match us with
   |[.pd cells]=>fU tt t cells
   |_=> .no
  |op=>uC tt op us
 |some .fresh=>match op with
  | .load t _=>match us with
   |[.pd cells]=>fU tt t cells
   |_=> .no
  |op=>uC tt op us
 |some (.boxes as)=>match op with
  | .load t x=>match iU as x with
   |none=>match us with
    |[.pd cells]=>fU tt t cells
    |_=> .no
   |some _=>match us with
    |[a]=>match vf as x a with
     |true=>uY tt (.load t x) [a] M
     |false=> .no
    |_=> .no
  |op=>uC tt op us
 |_=>uY tt op us M
def d6 (draw:Option aL) (tt:TT) (t:TypeId) (p:Operand) (us:List AV) (M:ag) (K:ag->Prop):Prop:=
 match draw with
 |some .rows=>match us with
  |[.rel ℓ j o,x]=>match bM x with
   |some cs=>match cD cs with
    |true=>d5 tt t [.rel ℓ j o,x] M K
    |false=>False
   |none=>False
  |_=>False
 |some (.boxes as)=>match us with
  |[a,x]=>match vf as p a with
   |true=>d5 tt t [a,x] M K
   |false=>False
  |_=>False
 |_=>d5 tt t us M K
theorem DW {draw:Option aL} {tt:TT} {t:TypeId} {p:Operand} {us:List AV} {M:ag} {K:ag->Prop} (h:d6 draw tt t p us M K):d5 tt t us M K:=by
 unfold d6 at h
 split at h
 ·split at h
  ·split at h
   ·split at h
    ·exact h
    ·exact h.elim
   ·exact h.elim
  ·exact h.elim
 ·split at h
  ·split at h
   ·exact h
   ·exact h.elim
  ·exact h.elim
 ·exact h
theorem kX (draw:Option aL) (tt:TT) (op:Op) (us:List AV) (M:ag):m5 draw tt op us M= .no\/m5 draw tt op us M=uY tt op us M:=by
 have other:∀(op:Op),(∀t x,op= .load t x->False)->uC tt op us=uY tt op us M:=by
  intro op h
  unfold uY
  split
  ·rename_i t x;exact absurd rfl (h t x)
  ·rfl
 unfold m5
 split
 ·split
  ·split
   ·exact .inl rfl
   ·exact .inr rfl
   ·exact .inl rfl
  ·rename_i h
   exact .inr (other _ h)
 ·split
  ·split
   ·exact .inr rfl
   ·exact .inl rfl
  ·rename_i h
   exact .inr (other _ h)
 ·split
  ·split
   ·exact .inr rfl
   ·exact .inl rfl
  ·rename_i h
   exact .inr (other _ h)
 ·split
  ·split
   ·split
    ·exact .inr rfl
    ·exact .inl rfl
   ·split
    ·split
     ·exact .inr rfl
     ·exact .inl rfl
    ·exact .inl rfl
  ·rename_i h
   exact .inr (other _ h)
 ·exact .inr rfl
structure q' (u:AV) (M:ag) (K:AV->ag->Prop):Prop where
 out:K u M\/eD [u] M fun us M'=>match us with|[x]=>K x M'|_=>False
theorem bU {u:AV} {M:ag} {K:AV->ag->Prop} (h:K u M):q' u M K:=⟨.inl h⟩
theorem eH {u:AV} {M:ag} {K:AV->ag->Prop} (h:eD [u] M fun us M'=>match us with|[x]=>K x M'|_=>False):q' u M K:=⟨.inr h⟩
theorem DX {u:AV} {M:ag} {K:AV->ag->Prop}:q' u M K↔(K u M\/eD [u] M fun us M'=>match us with|[x]=>K x M'|_=>False):=⟨fun h=>h.out,fun h=>⟨h⟩⟩
def vg (draw:Option aL) (K:AV->ag->Prop):AV->ag->Prop:=
 match draw with
 |none=>K
 |some _=>fun u M=>q' u M K
def wO (tt:TT) (t:TypeId):Bool:=
 match tt.find t with
 |some ⟨_,_, .slice e,_⟩=>match tt.find e with
  |some ⟨_,_, .int _,_⟩=>true
  |some ⟨_,_, .bool,_⟩=>true
  |some ⟨_,_, .string,_⟩=>true
  |_=>false
 |_=>false
def DY:AV->Bool
 | .row _ _ _=>false
 |_=>true
def Cp:List AV->Bool
 |[]=>true
 |u::us=>match DY u with|true=>Cp us|false=>false
def KK:AV->Bool
 | .row _ _ _=>false
 | .agg cs=>Cp cs
 |_=>true
def m6:List AV->Bool
 |[]=>true
 |u::us=>match KK u with|true=>m6 us|false=>false
def yF:List Operand->Bool
 | .const (.slice none 0 0)::_=>true
 |_=>false
def qc (draw:Option aL) (tt:TT) (t:TypeId) (len:Nat) (is:List Nat) (us:List AV) (dst:Option Tmp) (M:ag) (K:AV->ag->Prop):Prop:=
 match draw with
 |none=>fD tt t len is us dst M K
 |some r=>match (match AQ r with|true=>true|false=>wO tt t) with
  |true=>match m6 us with
   |true=>fD tt t len is us dst M (vg (some r) K)
   |false=>False
  |false=>fD tt t len is us dst M (vg (some r) K)
theorem vi {draw:Option aL} {tt:TT} {t:TypeId} {len:Nat} {is:List Nat} {us:List AV} {dst:Option Tmp} {M:ag} {K:AV->ag->Prop} (h:qc draw tt t len is us dst M K):fD tt t len is us dst M (vg draw K):=by
 unfold qc at h
 cases draw with
 |none=>exact h
 |some r=>
  simp only at h
  split at h
  ·split at h
   ·exact h
   ·exact h.elim
  ·exact h
def AR (draw:Option aL) (tt:TT) (args:List Operand) (ts:List TypeId) (us:List AV) (dst:Option Tmp) (M:ag) (K:AV->ag->Prop):Prop:=
 match draw with
 |some .fresh=>match yF args with
  |true=>match us with
   |[.nilsl, .sl d enc l]=>lK tt ts [.nilsl, .sl d enc l] dst M K
   |_=>False
  |false=>lK tt ts us dst M K
 |_=>lK tt ts us dst M K
theorem Cq {draw:Option aL} {tt:TT} {args:List Operand} {ts:List TypeId} {us:List AV} {dst:Option Tmp} {M:ag} {K:AV->ag->Prop} (h:AR draw tt args ts us dst M K):lK tt ts us dst M K:=by
 unfold AR at h
 split at h
 ·split at h
  ·split at h
   ·exact h
   ·exact h.elim
  ·exact h
 ·exact h
def aZ (P:Program) (tt:TT) (draw:Option aL) (o:Oper) (us:List AV) (M:ag) (K:AV->ag->Prop):Prop:=
 match o.op with
 | .store t p _=>match draw with
  |none=>sK tt t us M fun M'=>K (.tup []) M'
  |some _=>d6 draw tt t p us M fun M'=>K (.tup []) M'
 | .alloc t=>kc tt t o.dst M K
 | .box t _=>FD t us o.dst M K
 | .makeSlice t _ _=>match draw with
  |none=>PB (nM tt t us o.dst M K) tt t us M K
  |some _=>nM tt t us o.dst M K
 | .range t _=>sM tt t us o.dst M K
 | .next _ str=>yp str us M K
 | .slice t _ lo hi mx=>match draw with
  |none=>match lo,hi,mx,us with
   |none,some _,none,[.row ℓ n sz, .int _ b]=>FO (wF tt t ℓ n sz b o.dst M K) (Cg tt t ℓ n sz 0 b M K)
   |some _,none,none,[.row ℓ n sz, .int _ a]=>Cg tt t ℓ n sz a n M K
   |_,_,_,_=>gY (uY tt o.op us M) fun u=>K u M
  |some _=>gY (m5 draw tt o.op us M) fun u=>K u M
 | .convert s d _=>match draw with
  |none=>match us with
   |[.row ℓ _ _]=>Lx tt s d ℓ M K
   |_=>gY (uY tt o.op us M) fun u=>K u M
  |some _=>gY (m5 draw tt o.op us M) fun u=>K u M
 | .makeMap _ r=>match draw,r with
  |none,none=>Lv o.dst M K
  |_,_=>gY (m5 draw tt o.op us M) fun u=>K u M
 | .lookup t _ _ ok=>match draw with
  |none=>FQ P tt t ok us M K
  |some _=>gY (m5 draw tt o.op us M) fun u=>K u M
 | .mapUpdate t _ _ _=>match draw with
  |none=>Lw P tt t us M fun M'=>K (.tup []) M'
  |some _=>gY (m5 draw tt o.op us M) fun u=>K u M
 | .buildSlice t len ps=>match draw with
  |none=>Lt (qc none tt t len (ps.toList.map (·.1)) us o.dst M K) tt t len (ps.toList.map (·.1)) us o.dst M K
  |some _=>qc draw tt t len (ps.toList.map (·.1)) us o.dst M K
 | .call c=>match c.callee with
  | .value _=>match us with
   | .fn f caps::args=>match draw with
    |none=>FS args caps fun l=>aj P f l M K
    |some r=>FS args caps fun l=>yE r P f l M K
   |_=>False
  | .builtin .append=>match draw with
   |none=>Ls (AR none tt c.args.toList c.argTypes.toList us o.dst M K) tt c.argTypes.toList us o.dst M K
   |some _=>AR draw tt c.args.toList c.argTypes.toList us o.dst M K
  | .builtin .copy=>match draw with
   |none=>FG tt c.argTypes.toList us M K
   |some _=>gY (m5 draw tt o.op us M) fun u=>K u M
  |_=>gY (m5 draw tt o.op us M) fun u=>K u M
 |_=>gY (m5 draw tt o.op us M) fun u=>K u M
section
variable {S F:ai} {ρ:aE} {M:ag} {w:World} {P:Program} {tt:TT}
theorem fJ.eval {a:Act} {fr:List AV} (h:fJ S ρ a fr) (x:Operand):RV S ρ (a.eval x) (cY fr x):=by
 cases x with
 |tmp t=>
  simp only[Act.eval,cY]
  by_cases ht:t<fr.length
  ·have hg:fr[t]? =some (fr.getD t .top):=by simp[List.getD,ht]
   obtain⟨v,hv,hr⟩:=h.1.2 t _ hg
   have:a.tmps.getD t undef=v:=by
    have hv':a.tmps[t]? =some v:=by simpa using hv
    simp[hv']
   rw[this];exact hr
  ·have:fr.getD t .top= .top:=by simp[List.getD,ht]
   rw[this];exact .p (.top _)
 |const v=>exact .p (kp v)
 |func f=>exact RV.fn_mk f (bk.nil _ _)
 |global g=>exact .p (.val _)
theorem fJ.evals {a:Act} {fr:List AV} (h:fJ S ρ a fr):∀xs:List Operand,bk S ρ (xs.map a.eval) (xs.map (cY fr))
 |[]=>bk.nil _ _
 |x::xs=>bk.cons (h.eval x) (fJ.evals h xs)
theorem bk.set_ {vs:List Value} {us:List AV} (h:bk S ρ vs us) (d:Nat) {v:Value} {u:AV} (hv:RV S ρ v u):bk S ρ (vs.set d v) (us.set d u):=by
 refine⟨by simp[h.1],fun i x hx=>?_⟩
 rw[List.getElem?_set] at hx⊢
 split at hx
 ·split at hx
  ·rename_i e hl
   subst e
   cases hx
   exact⟨v,by rw[if_pos rfl,if_pos (by rw[h.1];exact hl)],hv⟩
  ·simp at hx
 ·rename_i e
  obtain⟨y,hy,hr⟩:=h.2 i x hx
  exact⟨y,by rw[if_neg e];exact hy,hr⟩
theorem fJ.put {a:Act} {fr:List AV} (h:fJ S ρ a fr) (d:Option Tmp) {v:Value} {u:AV} (hv:RV S ρ v u):fJ S ρ (a.put d v) (cA fr d u):=by
 cases d with
 |none=>exact h
 |some d=>exact⟨by simpa[Act.put,cA] using h.1.set_ d hv,h.2⟩
theorem fJ.mono {S':ai} {ρ':aE} {a:Act} {fr:List AV} (h:fJ S ρ a fr) (hS:S.le S') (hρ:aE.le ρ ρ'):fJ S' ρ' a fr:=⟨h.1.mono hS hρ,h.2⟩
def dG (S F:ai) (ρ:aE) (w:World) (K:List AV->ag->Prop) (a:Act) (w':World):Prop:=
 ∃fr M' S' ρ',K fr M'/\S.le S'/\aE.le ρ ρ'/\aD S' F ρ' M' w'/\fJ S' ρ' a fr/\eo w w'
theorem dG.trans {S':ai} {ρ':aE} {w' w'':World} {K:List AV->ag->Prop} {a:Act} (h:dG S' F ρ' w' K a w'') (hS:S.le S') (hρ:aE.le ρ ρ') (hw:eo w w'):dG S F ρ w K a w'':=by
 obtain⟨fr,M',S2,ρ2,hk,h1,h2,h3,h4,h5⟩:=h
 exact⟨fr,M',S2,ρ2,hk,ai.le_trans hS h1,aE.le_trans hρ h2,h3,h4,hw.trans h5⟩
theorem dG.mono {K K':List AV->ag->Prop} {a:Act} {w':World} (h:dG S F ρ w K a w') (hk:∀fr M,K fr M->K' fr M):dG S F ρ w K' a w':=by
 obtain⟨fr,M',S2,ρ2,h0,h⟩:=h
 exact⟨fr,M',S2,ρ2,hk _ _ h0,h⟩
theorem FU {o:Oper} {a:Act} {next:Act->World->Prop} {Q:Exit->Act->World->Prop} {m:Sem Value} {v:Value} {w':World} (he:execOp a.eval o=(do pure (.value (<-m)))) (h:m.run P w= .ok v w') (hn:next (a.put o.dst v) w'):
  o.wp P a w next Q:=by
 unfold Oper.wp;rw[he];simp only[Sem.run_bind,h,Result.andThen_ok,Sem.run_pure,Oper.upon];exact hn
theorem I2 (hT:bn P tt=true) {draw:Option aL} {o:Oper} {us:List AV} {a:Act} {K:AV->ag->Prop} {Q:Exit->Act->World->Prop} {fr:List AV} (h:aZ P tt draw o us M K) (hM:aD S F ρ M w) (hF:fJ S ρ a fr)
  (hu:bk S ρ ((aG o.op).map a.eval) us):o.wp P a w (dG S F ρ w (fun fr' M'=>∃u,K u M'/\fr'=cA fr o.dst u)) Q:=by
 have fin:∀{m:Sem Value},execOp a.eval o=(do pure (.value (<-m)))->cP P S F ρ w m K->o.wp P a w (dG S F ρ w (fun fr' M'=>∃u,K u M'/\fr'=cA fr o.dst u)) Q:=by
  intro m he ⟨v,u,M',S',ρ',w',hr,hK,h1,h2,h3,h4,h5⟩
  exact FU he hr ⟨_,M',S',ρ',⟨u,hK,rfl⟩,h1,h2,h3,(hF.mono h1 h2).put _ h4,h5⟩
 have rs:∀{r:Rs},Ay S ρ P w (execOp a.eval o) r->∀{r':Rs},(r'= .no\/r'=r)->gY r' (fun u=>K u M)->o.wp P a w (dG S F ρ w (fun fr' M'=>∃u,K u M'/\fr'=cA fr o.dst u)) Q:=by
  intro r hr r' hr' hk
  rcases hr' with rfl|rfl
  ·exact hk.elim
  obtain⟨v,u,he,hv,hK⟩:=FC hk hr
  unfold Oper.wp
  rw[he]
  exact⟨_,M,S,ρ,⟨u,hK,rfl⟩,ai.le_refl _,aE.le_refl _,hM,hF.put _ hv,eo.refl _⟩
 obtain⟨dst,op,ty,ps,af,gd⟩:=o
 unfold aZ at h
 cases op with
 |store t x y=>
  have hL:oS P S F ρ w (Instr.storeAt t (a.eval x) (a.eval y)) (fun M'=>K (.tup []) M'):=by
   cases draw with
   |none=>exact DS hT h hM hu
   |some r=>exact mX hT (va:=a.eval x) (vx:=a.eval y) (DW h) hM hu
  obtain⟨M',S',ρ',w',hr,hK,h1,h2,h3,h5⟩:=hL
  unfold Oper.wp
  have he:(execOp a.eval ⟨dst, .store t x y,ty,ps,af,gd⟩).run P w= .ok .skip w':=by
   simp only[execOp,Sem.run_bind,hr,Result.andThen_ok,Sem.run_pure]
  rw[he]
  refine⟨_,M',S',ρ',⟨_,hK,rfl⟩,h1,h2,h3,(hF.mono h1 h2).put _ ?_,h5⟩
  exact RV.tup_mk (bk.nil _ _)
 |alloc t=>exact fin rfl (DN hT h hM)
 |range t x=>exact fin rfl (DP (v:=a.eval x) hT h hM hu)
 |next x str=>exact fin rfl (FJ (v:=a.eval x) h hM hu)
 |slice t x lo hi mx=>
  simp only at h
  split at h
  ·split at h
   ·rename_i y ℓ n sz k b
    obtain⟨v0,vs1,e,h0,hv1⟩:=hu.cons_inv
    obtain⟨v1,vs2,e',h1,hv2⟩:=hv1.cons_inv
    have hv2':=hv2.nil_inv
    subst hv2'
    subst e'
    simp only[aG,Option.toList,List.nil_append,List.append_nil,List.map_cons,List.map_nil,List.cons.injEq,and_true] at e
    obtain⟨e1,e2⟩:=e
    have hi:=h1.int_inv
    rw[<-e2] at hi
    rw[<-e1] at h0
    rcases h.out with h|h
    ·have:=AK (P:=P) (k:=k) hT h hM h0
     rw[<-hi] at this
     exact fin rfl this
    ·exact fin rfl (yB (P:=P) (kl:=k) (kh:=k) hT h hM h0 (.inr ⟨rfl,rfl⟩) (.inl (by rw[<-hi];rfl)))
   ·rename_i y ℓ n sz k b
    obtain⟨v0,vs1,e,h0,hv1⟩:=hu.cons_inv
    obtain⟨v1,vs2,e',h1,hv2⟩:=hv1.cons_inv
    have hv2':=hv2.nil_inv
    subst hv2'
    subst e'
    simp only[aG,Option.toList,List.nil_append,List.append_nil,List.map_cons,List.map_nil,List.cons.injEq,and_true] at e
    obtain⟨e1,e2⟩:=e
    have hi:=h1.int_inv
    rw[<-e2] at hi
    rw[<-e1] at h0
    exact fin rfl (yB (P:=P) (kl:=k) (kh:=k) hT h hM h0 (.inl (by rw[<-hi];rfl)) (.inr ⟨rfl,rfl⟩))
   ·exact rs (jo hT hM a.eval _ hu) (.inr rfl) h
  ·exact rs (jo hT hM a.eval _ hu) (kX _ tt _ _ _) h
 |box t x=>exact fin rfl (IQ (v:=a.eval x) h hM hu)
 |convert t d x=>
  simp only at h
  split at h
  ·split at h
   ·rename_i ℓ n sz
    obtain⟨v0,vs1,e,h0,hv1⟩:=hu.cons_inv
    have hv1':=hv1.nil_inv
    subst hv1'
    simp only[aG,List.map_cons,List.map_nil,List.cons.injEq,and_true] at e
    rw[<-e] at h0
    exact fin rfl (IY (P:=P) hT h hM h0)
   ·exact rs (jo hT hM a.eval _ hu) (.inr rfl) h
  ·exact rs (jo hT hM a.eval _ hu) (kX _ tt _ _ _) h
 |makeMap t r=>
  simp only at h
  split at h
  ·exact fin rfl (IW (t:=t) h hM)
  ·exact rs (jo hT hM a.eval _ hu) (kX _ tt _ _ _) h
 |lookup t x y ok=>
  simp only at h
  split at h
  ·exact fin rfl (FR (P:=P) (vm:=a.eval x) (vk:=a.eval y) hT h hM hu)
  ·exact rs (jo hT hM a.eval _ hu) (kX _ tt _ _ _) h
 |mapUpdate t x y z=>
  simp only at h
  split at h
  ·obtain⟨M',S',ρ',w',hr,hK,h1,h2,h3,h5⟩:=IX (P:=P) (vm:=a.eval x) (vk:=a.eval y) (vx:=a.eval z) hT h hM hu
   unfold Oper.wp
   have he:(execOp a.eval ⟨dst, .mapUpdate t x y z,ty,ps,af,gd⟩).run P w= .ok .skip w':=by
    simp only[execOp,Sem.run_bind,hr,Result.andThen_ok,Sem.run_pure]
   rw[he]
   refine⟨_,M',S',ρ',⟨_,hK,rfl⟩,h1,h2,h3,(hF.mono h1 h2).put _ ?_,h5⟩
   exact RV.tup_mk (bk.nil _ _)
  ·exact rs (jo hT hM a.eval _ hu) (kX _ tt _ _ _) h
 |makeSlice t x y=>
  cases draw with
  |none=>exact fin rfl (Lz hT (vl:=a.eval x) (vc:=a.eval y) h hM hu fun h=>yq hT (vl:=a.eval x) (vc:=a.eval y) h hM hu)
  |some r=>exact fin rfl (yq hT (vl:=a.eval x) (vc:=a.eval y) h hM hu)
 |buildSlice t len parts=>
  have hz:((parts.toList.map (·.1)).zip ((parts.toList.map (·.2)).map a.eval)).toArray=parts.map fun(i,x)=>(i,a.eval x):=by
   apply Array.ext'
   simp only[List.toList_toArray,Array.toList_map,List.map_map]
   rw[List.zip_map']
   rfl
  refine fin rfl ?_
  cases draw with
  |none=>
   have:=IZ (P:=P) (S:=S) (F:=F) (ρ:=ρ) (w:=w) (vs:=(parts.toList.map (fun p:Nat×Operand=>p.2)).map a.eval) hT h hM hu (by simp)
    (fun hA=>qa (P:=P) (S:=S) (F:=F) (ρ:=ρ) (w:=w) (vs:=(parts.toList.map (fun p:Nat×Operand=>p.2)).map a.eval) hT (vi hA) hM hu (by simp))
   rw[hz] at this
   exact this
  |some r=>
   have:=qa (P:=P) (S:=S) (F:=F) (ρ:=ρ) (w:=w) (vs:=(parts.toList.map (fun p:Nat×Operand=>p.2)).map a.eval) hT (vi h) hM hu (by simp)
   rw[hz] at this
   obtain⟨v,u,M',S',ρ',w',hr,hK,h1,h2,h3,h4,h5⟩:=this
   have hK':q' u M' K:=hK
   rcases hK'.out with hK|hK
   ·exact⟨v,u,M',S',ρ',w',hr,hK,h1,h2,h3,h4,h5⟩
   ·obtain⟨us',M2,S2,hK2,hle2,hv2,hM2,_⟩:=iw [u] [v] S' M' _ hK (bk.cons h4 (bk.nil _ _)) h3
    cases us' with
    |nil=>exact hK2.elim
    |cons x r=>
     cases r with
     |cons _ _=>exact hK2.elim
     |nil=>
      obtain⟨y,ys,e,hy,_⟩:=hv2.cons_inv
      injection e with e1 _
      subst e1
      exact⟨v,x,M2,S2,ρ',w',hr,hK2,ai.le_trans h1 hle2,h2,hM2,hy,h5⟩
 |call c=>
  obtain⟨callee,args,tys⟩:=c
  cases callee with
  |value f=>
   have hcall:∀(g:FuncId) (caps:Array Value),a.eval f= .func (.func g) #[] caps->q9 P g->(execOp a.eval ⟨dst, .call ⟨.value f,args,tys⟩,ty,ps,af,gd⟩).run P w= .ok (.enter g (args.map a.eval++caps)) w:=by
    intro g caps hf ⟨fn,h1,h2,h3⟩
    simp only[execOp,resolve,hf,Deferred.ofValue,Sem.run_bind,Sem.run_pure,Result.andThen_ok,invoke,Array.empty_append,callFunc,run_program,h1,h2,h3,Bool.false_eq_true,if_false]
   simp only[aG,List.map_cons] at hu
   cases us with
   |nil=>simp[bk] at hu
   |cons u0 us=>
    obtain⟨v0,vs,e,hv0,hvs⟩:=hu.cons_inv
    injection e with e1 e2
    subst e1;subst e2
    simp only at h
    split at h
    ·rename_i g caps args' e
     injection e with e1 e2
     subst e1;subst e2
     obtain⟨cv,hf,hcv⟩:=hv0.fn_inv
     have harr:(args.map a.eval++cv)=((args.toList.map a.eval)++cv.toList).toArray:=by apply Array.ext';simp
     split at h
     ·rw[m4] at h
      have hpl:q9 P g:=by rw[ce] at h;exact h.1
      unfold Oper.wp
      rw[hcall g cv hf hpl]
      simp only[Oper.upon]
      rw[ce] at h
      rw[harr]
      refine(h.2 S F ρ _ w hM (hvs.append hcv)).mono ?_
      rintro e w' ⟨v,u,M',S',ρ',rfl,hK,h1,h2,h3,h4,h5⟩
      exact⟨_,M',S',ρ',⟨u,hK,rfl⟩,h1,h2,h3,(hF.mono h1 h2).put _ h4,h5⟩
     ·rename_i r
      rw[m4] at h
      have hS:aj P g (us++caps) M K:=by
       cases ho:gq r with
       |true=>
        rw[Cn ho] at h
        exact h
       |false=>
        cases hr:cr r with
        |true=>
         rw[jR hr] at h
         exact h.spec
        |false=>
         rw[jS hr ho,fk] at h
         obtain⟨R,n,hspec,hp,_,hk⟩:=h
         exact aj.of_pure (M:=M) (K:=K) (n:=n) hspec hp hk
      have hpl:q9 P g:=by rw[ce] at hS;exact hS.1
      unfold Oper.wp
      rw[hcall g cv hf hpl]
      simp only[Oper.upon]
      rw[ce] at hS
      rw[harr]
      refine(hS.2 S F ρ _ w hM (hvs.append hcv)).mono ?_
      rintro e w' ⟨v,u,M',S',ρ',rfl,hK,h1,h2,h3,h4,h5⟩
      exact⟨_,M',S',ρ',⟨u,hK,rfl⟩,h1,h2,h3,(hF.mono h1 h2).put _ h4,h5⟩
    ·exact h.elim
  |invoke r m=>exact rs (jo hT hM a.eval _ hu) (kX draw tt _ _ _) h
  |builtin b=>
   cases b with
   |append=>
    have:cP P S F ρ w (Builtin.append_ tys.toList.toArray ty ((aG (.call ⟨.builtin .append,args,tys⟩)).map a.eval).toArray) K:=by
     cases draw with
     |none=>exact I1 (P:=P) hT h hM hu fun hA=>yv (P:=P) (S:=S) (F:=F) (ρ:=ρ) (w:=w) (ty:=ty) hT (Cq hA) hM hu
     |some r=>exact yv (P:=P) (S:=S) (F:=F) (ρ:=ρ) (w:=w) (ty:=ty) hT (Cq h) hM hu
    refine fin (m:=Builtin.append_ tys.toList.toArray ty ((aG (.call ⟨.builtin .append,args,tys⟩)).map a.eval).toArray) ?_ this
    simp only[execOp,resolve,aG,Array.toArray_toList]
    have e:(args.toList.map a.eval).toArray=args.map a.eval:=by apply Array.ext';simp
    rw[e]
    rfl
   |copy=>
    cases draw with
    |some r=>exact rs (jo hT hM a.eval _ hu) (kX _ tt _ _ _) h
    |none=>
     have:=FM (P:=P) (S:=S) (F:=F) (ρ:=ρ) (w:=w) (ty:=ty) hT h hM hu
     refine fin (m:=Builtin.copy_ tys.toList.toArray ty ((aG (.call ⟨.builtin .copy,args,tys⟩)).map a.eval).toArray) ?_ this
     simp only[execOp,resolve,aG,Array.toArray_toList]
     have e:(args.toList.map a.eval).toArray=args.map a.eval:=by apply Array.ext';simp
     rw[e]
     rfl
   |_=>exact rs (jo hT hM a.eval _ hu) (kX draw tt _ _ _) h
 |_=>exact rs (jo hT hM a.eval _ hu) (kX draw tt _ _ _) h
def nQ:List Oper->Nat->Option Tmp
 |[],_=>none
 |o::_,0=>o.dst
 |_::l,n+1=>nQ l n
theorem yG:∀(l:List Oper) (n:Nat),nQ l n=(l[n]?).bind (·.dst)
 |[],_=>by simp[nQ]
 |_::_,0=>by simp[nQ]
 |_::l,n+1=>by rw[nQ,yG l n];simp
def KL (b want:Bool) (kt kf:Prop):Prop:=
 match b,want with
 |true,true=>kt
 |false,false=>kt
 |true,false=>kf
 |false,true=>kf
def kY (all:List Oper) (fr:List AV) (g:Option (Nat×Bool)) (kt kf:Prop):Prop:=
 match g with
 |none=>kt
 |some (j,want)=>match nQ all j with
  |none=>False
  |some d=>wL fr d fun u=>match u with
   | .bool b=>KL b want kt kf
   | .tup _=>kf
   |_=>False
def b8 (P:Program) (tt:TT) (draw:Option aL) (all:List Oper) (o:Oper) (fr:List AV) (M:ag) (K:List AV->ag->Prop):Prop:=
 kY all fr o.guard (AP fr (aG o.op) fun us=>aZ P tt draw o us M fun u M'=>mf fr o.dst u fun fr'=>K fr' M') (mf fr o.dst (.tup []) fun fr'=>K fr' M)
theorem DZ {all:List Oper} {a:Act} {fr:List AV} {o:Oper} {kt kf:Prop} (h:kY all fr o.guard kt kf) (hF:fJ S ρ a fr):
  if Region.wanted o (yielded all.toArray a.tmps) then kt else kf:=by
 unfold kY at h
 unfold Region.wanted
 cases hg:o.guard with
 |none=>rw[hg] at h;simpa using h
 |some p=>
  obtain⟨j,want⟩:=p
  rw[hg] at h
  simp only at h
  simp only[yG] at h
  split at h
  ·exact h.elim
  ·rename_i d hd
   rw[m0] at h
   have hy:yielded all.toArray a.tmps j=match a.tmps[d]? with|some (.bool b)=>some b|_=>none:=by
    unfold yielded
    have:(all.toArray[j]?).bind (·.dst)=some d:=by simpa using hd
    rw[this]
    rfl
   have hr:∀u,fr.getD d .top=u->u≠ .top->∃v,a.tmps[d]? =some v/\RV S ρ v u:=by
    intro u hu hne
    by_cases hl:d<fr.length
    ·have hg:fr[d]? =some u:=by rw[<-hu];simp[List.getD,hl]
     obtain⟨v,hv,hr⟩:=hF.1.2 d u hg
     exact⟨v,by simpa using hv,hr⟩
    ·exact absurd (by rw[<-hu];simp[List.getD,hl]) hne
   split at h
   ·rename_i b hb
    obtain⟨v,hv,hvr⟩:=hr _ hb (by simp)
    rw[hv,hvr.bool_inv] at hy
    simp only at hy
    simp only[hy]
    cases b<;>cases want<;>simpa[KL] using h
   ·rename_i cs hb
    obtain⟨v,hv,hvr⟩:=hr _ hb (by simp)
    obtain⟨vs,rfl,_⟩:=hvr.tup_inv
    rw[hv] at hy
    simp only at hy
    simp only[hy]
    simpa using h
   ·exact h.elim
theorem o0 (hT:bn P tt=true) {draw:Option aL} {all:List Oper} {o:Oper} {a:Act} {K:List AV->ag->Prop} {Q:Exit->Act->World->Prop} {fr:List AV} (h:b8 P tt draw all o fr M K) (hM:aD S F ρ M w) (hF:fJ S ρ a fr):
  if Region.wanted o (yielded all.toArray a.tmps) then o.wp P a w (dG S F ρ w K) Q else dG S F ρ w K (a.put o.dst undef) w:=by
 have:=DZ h hF
 split
 ·rename_i hw
  rw[if_pos hw,fS] at this
  refine Oper.wp_mono (fun a' w' h'=>?_) (I2 (Q:=Q) hT this hM hF (hF.evals _))
  exact h'.mono fun fr' M' ⟨u,hk,e⟩=>by rw[fj] at hk;rw[e];exact hk
 ·rename_i hw
  rw[if_neg hw,fj] at this
  exact⟨_,M,S,ρ,this,ai.le_refl _,aE.le_refl _,hM,hF.put _ (RV.tup_mk (bk.nil _ _)),eo.refl _⟩
def cF (P:Program) (tt:TT) (draw:Option aL) (all:List Oper):List Oper->List AV->ag->(List AV->ag->Prop)->Prop
 |[],fr,M,K=>K fr M
 |o::r,fr,M,K=>b8 P tt draw all o fr M fun fr' M'=>cF P tt draw all r fr' M' K
theorem Cr (hT:bn P tt=true) {all:List Oper} {K:List AV->ag->Prop} {Q:Exit->Act->World->Prop}:∀(l:List Oper) (S:ai) (ρ:aE) (w:World) (a:Act) (fr:List AV) (M:ag),cF P tt none all l fr M K->aD S F ρ M w->fJ S ρ a fr->
  (∀a' w',dG S F ρ w K a' w'->Q .normal a' w')->wpList P all.toArray Q l a w
 |[],S,ρ,w,a,fr,M,h,hM,hF,hQ=>hQ _ _ ⟨fr,M,S,ρ,h,ai.le_refl _,aE.le_refl _,hM,hF,eo.refl _⟩
 |o::r,S,ρ,w,a,fr,M,h,hM,hF,hQ=>by
  have hs:=o0 (Q:=Q) hT h hM hF
  unfold wpList
  have next:∀a' w',dG S F ρ w (fun fr' M'=>cF P tt none all r fr' M' K) a' w'->wpList P all.toArray Q r a' w':=by
   rintro a' w' ⟨fr',M',S',ρ',hk,h1,h2,h3,h4,h5⟩
   exact Cr hT r S' ρ' w' a' fr' M' hk h3 h4 fun a'' w'' h'=>hQ _ _ (h'.trans h1 h2 h5)
  split
  ·rename_i hw
   rw[if_pos hw] at hs
   exact .inl (Oper.wp_mono next hs)
  ·rename_i hw
   rw[if_neg hw] at hs
   exact next _ _ hs
end
end
section
def bz {X:Type 1} (T:(X->Prop)->Prop):Prop:=∃p:X->Prop,∀K,T K↔∃x,p x/\K x
theorem bz.false {X:Type 1}:bz (fun _:X->Prop=>False):=⟨fun _=>False,fun K=>by simp⟩
theorem bz.one {X:Type 1} (x:X):bz (fun K:X->Prop=>K x):=⟨fun y=>y=x,fun K=>by simp⟩
theorem bz.need {X:Type 1} (c:Prop) {T:(X->Prop)->Prop} (h:bz T):bz (fun K=>iv c (T K)):=by
 obtain⟨p,hp⟩:=h
 refine⟨fun x=>c/\p x,fun K=>?_⟩
 simp only[bW]
 show c/\T K↔_
 rw[hp]
 exact⟨fun⟨hc,x,h1,h2⟩=>⟨x,⟨hc,h1⟩,h2⟩,fun⟨x,⟨hc,h1⟩,h2⟩=>⟨hc,x,h1,h2⟩⟩
theorem bz.bind {X Y:Type 1} {T:(Y->Prop)->Prop} {U:Y->(X->Prop)->Prop} (h:bz T) (hU:∀y,bz (U y)):bz (fun K=>T fun y=>U y K):=by
 obtain⟨p,hp⟩:=h
 refine⟨fun x=>∃y,p y/\Classical.choose (hU y) x,fun K=>?_⟩
 show T (fun y=>U y K)↔_
 refine(hp _).trans ?_
 constructor
 ·rintro⟨y,hy,hK⟩
  obtain⟨x,h1,h2⟩:=(Classical.choose_spec (hU y) K).1 hK
  exact⟨x,⟨y,hy,h1⟩,h2⟩
 ·rintro⟨x,⟨y,hy,h1⟩,h2⟩
  exact⟨y,hy,(Classical.choose_spec (hU y) K).2 ⟨x,h1,h2⟩⟩
theorem bz.congr {X:Type 1} {T T':(X->Prop)->Prop} (h:bz T) (e:∀K,T' K↔T K):bz T':=by
 obtain⟨p,hp⟩:=h
 exact⟨p,fun K=>(e K).trans (hp K)⟩
theorem bz.ex {X:Type 1} {I:Sort _} {T:I->(X->Prop)->Prop} (h:∀i,bz (T i)):bz (fun K=>∃i,T i K):=by
 refine⟨fun x=>∃i,Classical.choose (h i) x,fun K=>?_⟩
 constructor
 ·rintro⟨i,hK⟩
  obtain⟨x,h1,h2⟩:=(Classical.choose_spec (h i) K).1 hK
  exact⟨x,⟨i,h1⟩,h2⟩
 ·rintro⟨x,⟨i,h1⟩,h2⟩
  exact⟨i,(Classical.choose_spec (h i) K).2 ⟨x,h1,h2⟩⟩
theorem bz.and {X:Type 1} (c:Prop) {T:(X->Prop)->Prop} (h:bz T):bz (fun K=>c/\T K):=by
 obtain⟨p,hp⟩:=h
 refine⟨fun x=>c/\p x,fun K=>?_⟩
 show c/\T K↔_
 rw[hp]
 exact⟨fun⟨hc,x,h1,h2⟩=>⟨x,⟨hc,h1⟩,h2⟩,fun⟨x,⟨hc,h1⟩,h2⟩=>⟨hc,x,h1,h2⟩⟩
theorem bz.or {X:Type 1} {T U:(X->Prop)->Prop} (h:bz T) (h':bz U):bz (fun K=>T K\/U K):=by
 obtain⟨p,hp⟩:=h
 obtain⟨q,hq⟩:=h'
 refine⟨fun x=>p x\/q x,fun K=>?_⟩
 show T K\/U K↔_
 rw[hp,hq]
 constructor
 ·rintro(⟨x,a,b⟩|⟨x,a,b⟩)
  ·exact⟨x, .inl a,b⟩
  ·exact⟨x, .inr a,b⟩
 ·rintro⟨x,a|a,b⟩
  ·exact .inl ⟨x,a,b⟩
  ·exact .inr ⟨x,a,b⟩
theorem o7:∀(us:List AV) (M:ag),bz (fun K:List AV×ag->Prop=>eD us M fun a b=>K (a,b))
 |[],M=>bz.one ([],M)
 |u::us,M=>by
  have key:∀(x:AV) (M':ag),bz (fun K:List AV×ag->Prop=>eD us M' fun us' M''=>K (x::us',M'')):=fun x M'=>
   (bz.bind (o7 us M') (fun y:List AV×ag=>bz.one (x::y.1,y.2))).congr fun K=>Iff.rfl
  simp only[eD]
  split
  ·rename_i ℓ n sz
   split
   ·exact key _ _
   ·exact key _ _
   ·exact bz.false
  ·exact key _ _
theorem sV:∀(css:List (List AV)) (M:ag),bz (fun K:List (List AV)×ag->Prop=>ke css M fun a b=>K (a,b))
 |[],M=>bz.one ([],M)
 |cs::r,M=>by
  simp only[ke]
  refine(bz.bind (o7 cs M) (U:=fun y K=>ke r y.2 fun r' M''=>K (y.1::r',M'')) (fun y=>?_)).congr fun K=>Iff.rfl
  exact(bz.bind (sV r y.2) (fun z:List (List AV)×ag=>bz.one (y.1::z.1,z.2))).congr fun K=>Iff.rfl
theorem qd (tt:TT) (t:TypeId) (us:List AV) (M:ag):bz (fun K:ag->Prop=>d5 tt t us M K):=by
 unfold d5
 split
 ·split
  ·split
   ·split
    ·split
     ·split
      ·simp only[di];exact bz.one _
      ·exact bz.false
     ·exact bz.false
    ·rename_i ℓ j o
     refine(bz.bind (o7 _ M) (U:=fun y (K:ag->Prop)=>match y.2 ℓ with
      |some (.row rt d enc l)=>match cD y.1,Nat.ble (o+y.1.length) (enc (l.getD j d)).length with
       |true,true=>rM enc (l.getD j d) o y.1 fun a'=>K (y.2.set ℓ (.row rt d enc (l.set j a')))
       |_,_=>False
      |_=>False) (fun y=>?_)).congr fun K=>Iff.rfl
     split
     ·split
      ·simp only[f9]
       exact bz.ex fun a'=>bz.and _ (bz.one _)
      ·exact bz.false
     ·exact bz.false
    ·exact bz.false
   ·exact bz.false
  ·exact bz.false
 ·exact bz.false
theorem D1 (tt:TT) (t:TypeId) (dst:Option Tmp) (M:ag):bz (fun K:AV×ag->Prop=>kc tt t dst M fun a b=>K (a,b)):=by
 unfold kc
 split
 ·split
  ·simp only[di];exact bz.one (_,_)
  ·exact bz.false
 ·exact bz.false
theorem I3 (t:TypeId) (us:List AV) (dst:Option Tmp) (M:ag):bz (fun K:AV×ag->Prop=>FD t us dst M fun a b=>K (a,b)):=by
 unfold FD
 split
 ·split
  ·exact(bz.or (bz.and _ (bz.one (_,_))) (bz.one (_,_))).congr fun K=>⟨fun h=>h.out,fun h=>⟨h⟩⟩
  ·exact bz.false
 ·exact bz.false
theorem FV (tt:TT) (t:TypeId) (us:List AV) (dst:Option Tmp) (M:ag):bz (fun K:AV×ag->Prop=>nM tt t us dst M fun a b=>K (a,b)):=by
 unfold nM
 split
 ·split
  ·split
   ·simp only[kU]
    exact bz.and _ (bz.ex fun α=>bz.ex fun d=>bz.ex fun enc=>bz.ex fun z=>bz.and _ (bz.one (_,_)))
   ·exact bz.false
  ·exact bz.false
 ·exact bz.false
theorem D2 (tt:TT) (t:TypeId) (len:Nat) (is:List Nat) (us:List AV) (dst:Option Tmp) (M:ag):bz (fun K:AV×ag->Prop=>fD tt t len is us dst M fun a b=>K (a,b)):=by
 unfold fD
 split
 ·rename_i d _ _ e _ _
  split
  ·rename_i i _
   split
   ·refine(bz.bind (sV _ M) (U:=fun y (K:AV×ag->Prop)=>match y.2 d with
      |none=>match ks y.1 with
       |true=>match oO y.1 with
        |some ns=>K (.row d len i.size,y.2.set d (.row e (0:Int) al ns))
        |none=>FE y.1 fun _ dd enc l=>K (.row d len i.size,y.2.set d (.row e dd enc l))
       |false=>False
      |some _=>False) (fun y=>?_)).congr fun K=>Iff.rfl
    split
    ·split
     ·split
      ·exact bz.one (_,_)
      ·simp only[jp]
       exact bz.ex fun α=>bz.ex fun d=>bz.ex fun enc=>bz.ex fun z=>bz.and _ (bz.one (_,_))
     ·exact bz.false
    ·exact bz.false
   ·exact bz.false
  ·exact bz.false
 ·exact bz.false
theorem I4 (tt:TT) (d:Nat) (e:TypeId) (i:TI) (s x:AV) (M:ag) (β:Type) (dd':β) (enc':β->List AV) (l':List β):bz (fun K:AV×ag->Prop=>match Nat.beq (enc' (l'.getD 0 dd')).length i.size with
  |true=>match s with
   | .nilsl=>iv (l'.length*i.bytes<=140737488355328) (K (.row d l'.length i.size,M.set d (.row e dd' enc' l')))
   | .slc dd enc l=>match Nat.beq (enc (l.getD 0 dd)).length i.size with
    |true=>iv (0<l'.length) (AH enc l enc' l' i.bytes fun l''=>K (.row d (l.length+l'.length) i.size,M.set d (.row e dd enc (l++l''))))
    |false=>False
   | .row ℓ n sz=>match M ℓ,Nat.beq sz i.size with
    |some (.row e' dd enc l),true=>match Nat.beq e' e,(match x with| .row ℓ' _ _=>!(Nat.beq ℓ ℓ')|_=>true) with
     |true,true=>AH enc l enc' l' i.bytes fun l''=>K (.row d (n+l'.length) i.size,(M.set ℓ .dead).set d (.row e dd enc (l++l'')))
     |_,_=>False
    |_,_=>False
   |_=>False
  |false=>False):=by
 split
 ·split
  ·exact bz.need _ (bz.one (_,_))
  ·split
   ·simp only[ku]
    exact bz.need _ (bz.and _ (bz.ex fun l''=>bz.and _ (bz.one (_,_))))
   ·exact bz.false
  ·split
   ·split
    ·simp only[ku]
     exact bz.and _ (bz.ex fun l''=>bz.and _ (bz.one (_,_)))
    ·exact bz.false
   ·exact bz.false
  ·exact bz.false
 ·exact bz.false
theorem I5 (x:AV) (M:ag) {X:Type 1} {U:(α:Type)->α->(α->List AV)->List α->(X->Prop)->Prop} (h:∀α d enc l,bz (U α d enc l)):bz (fun K:X->Prop=>wE x M fun α d enc l=>U α d enc l K):=by
 unfold wE
 split
 ·exact h _ _ _ _
 ·split
  ·exact h _ _ _ _
  ·exact h _ _ _ _
  ·exact bz.false
 ·exact h _ _ _ _
 ·exact bz.false
theorem AU (tt:TT) (ts:List TypeId) (us:List AV) (dst:Option Tmp) (M:ag):bz (fun K:AV×ag->Prop=>gp tt ts us dst M fun a b=>K (a,b)):=by
 unfold gp
 split
 ·split
  ·split
   ·split
    ·exact bz.false
    ·exact I5 _ M fun α d enc l=>I4 tt _ _ _ _ _ M α d enc l
   ·exact bz.false
  ·exact bz.false
 ·exact bz.false
theorem yH (tt:TT) (ts:List TypeId) (us:List AV) (dst:Option Tmp) (M:ag):bz (fun K:AV×ag->Prop=>mb tt ts us dst M fun a b=>K (a,b)):=by
 unfold mb
 split
 ·split
  ·split
   ·split
    ·simp only[kU]
     exact bz.and _ (bz.ex fun α=>bz.ex fun d=>bz.ex fun enc=>bz.ex fun z=>bz.and _ (bz.one (_,_)))
    ·exact bz.false
   ·exact bz.false
  ·exact bz.false
 ·exact bz.false
theorem sW (tt:TT) (ts:List TypeId) (us:List AV) (dst:Option Tmp) (M:ag):bz (fun K:AV×ag->Prop=>lK tt ts us dst M fun a b=>K (a,b)):=by
 unfold lK
 split
 ·exact yH tt ts _ dst M
 ·exact AU tt ts us dst M
theorem D5 (tt:TT) (t:TypeId) (us:List AV) (dst:Option Tmp) (M:ag):bz (fun K:AV×ag->Prop=>sM tt t us dst M fun a b=>K (a,b)):=by
 unfold sM
 split
 ·split
  ·exact bz.one (_,_)
  ·exact bz.false
 ·exact bz.false
theorem FW (str:Bool) (us:List AV) (M:ag):bz (fun K:AV×ag->Prop=>yp str us M fun a b=>K (a,b)):=by
 unfold yp
 split
 ·split
  ·rename_i s pos _
   simp only[u5]
   by_cases h:pos<s.size
   ·exact(bz.one (_,_)).congr fun K=>⟨fun hh=>hh.1 h,fun hh=>⟨fun _=>hh,fun hn=>absurd h hn⟩⟩
   ·exact(bz.one (_,_)).congr fun K=>⟨fun hh=>hh.2 h,fun hh=>⟨fun hp=>absurd hp h,fun _=>hh⟩⟩
  ·exact bz.false
 ·exact bz.false
def ee:Op->Nat
 | .load _ _=>1
 | .store _ _ _| .alloc _| .box _ _| .makeSlice _ _ _| .buildSlice _ _ _| .range _ _| .next _ _=>3
 | .call c=>match c.callee with
  | .value _=>2
  | .builtin .append=>3
  |_=>0
 |_=>0
variable {P:Program} {tt:TT}
theorem qe {o:Oper} (h:ee o.op=0\/ee o.op=1) (r:aL) (us:List AV) (M:ag) (K:AV->ag->Prop):aZ P tt (some r) o us M K=gY (m5 (some r) tt o.op us M) fun u=>K u M:=by
 unfold aZ
 cases ho:o.op with
 |store _ _ _=>rw[ho] at h;simp[ee] at h
 |alloc _=>rw[ho] at h;simp[ee] at h
 |box _ _=>rw[ho] at h;simp[ee] at h
 |range _ _=>rw[ho] at h;simp[ee] at h
 |next _ _=>rw[ho] at h;simp[ee] at h
 |makeSlice _ _ _=>rw[ho] at h;simp[ee] at h
 |buildSlice _ _ _=>rw[ho] at h;simp[ee] at h
 |call c=>
  obtain⟨callee,args,tys⟩:=c
  cases callee with
  |value f=>rw[ho] at h;simp[ee] at h
  |invoke _ _=>rfl
  |builtin b=>cases b<;>first|rfl|(rw[ho] at h;simp[ee] at h)
 |_=>rfl
theorem FX {op:Op} (h:ee op=0) (us:List AV) (M M':ag):uY tt op us M=uY tt op us M':=by
 cases op<;>first|rfl|simp[ee] at h
def i4 (r:aL) (op:Op):Nat:=
 match r,op with
 | .pers, .load _ _=>0
 | .fresh, .load _ _=>0
 | .boxes as, .load _ x=>match iU as x with
  |none=>0
  |some _=>1
 |_,op=>ee op
theorem Cs (r:aL) {op:Op} (h:i4 r op=0) (us:List AV) (M M':ag):m5 (some r) tt op us M=m5 (some r) tt op us M':=by
 cases r with
 |any=>exact FX h us M M'
 |flat=>exact FX h us M M'
 |own=>exact FX h us M M'
 |boxes as=>
  unfold m5
  cases op with
  |load t x=>
   simp only[i4] at h⊢
   cases hs:iU as x with
   |some l=>rw[hs] at h;cases h
   |none=>rfl
  |_=>rfl
 |fresh=>
  unfold m5
  cases op<;>rfl
 |rows=>
  unfold m5
  cases op<;>first|rfl|simp[i4,ee] at h
 |pers=>
  unfold m5
  cases op<;>rfl
theorem ki {r:aL} {op:Op} (h:i4 r op=0):ee op=0\/ee op=1:=by
 cases r<;>cases op<;>first|exact .inl h|exact .inr rfl
theorem iK {r:aL} {op:Op} {n:Nat} (h:i4 r op=n+1):ee op=n+1:=by
 cases r with
 |boxes as=>
  cases op with
  |load t x=>
   simp only[i4] at h
   split at h
   ·cases h
   ·exact h
  |_=>exact h
 |_=>cases op<;>first|exact h|(simp[i4] at h)
theorem AW (draw:Option aL) (tt:TT) (t:TypeId) (p:Operand) (us:List AV) (M:ag):bz (fun K:ag->Prop=>d6 draw tt t p us M K):=by
 unfold d6
 split
 ·split
  ·split
   ·split
    ·exact qd tt t _ M
    ·exact bz.false
   ·exact bz.false
  ·exact bz.false
 ·split
  ·split
   ·exact qd tt t _ M
   ·exact bz.false
  ·exact bz.false
 ·exact qd tt t us M
theorem wP {o:Oper} (h:ee o.op=3) (r:aL) (us:List AV) (M:ag):bz (fun K:AV×ag->Prop=>aZ P tt (some r) o us M fun a b=>K (a,b)):=by
 unfold aZ
 cases ho:o.op with
 |store t p _=>exact(bz.bind (AW (some r) tt t p us M) (fun m=>bz.one (.tup [],m))).congr fun K=>Iff.rfl
 |alloc t=>exact D1 tt t o.dst M
 |range t _=>exact D5 tt t us o.dst M
 |next _ str=>exact FW str us M
 |box t _=>exact I3 t us o.dst M
 |makeSlice t _ _=>exact FV tt t us o.dst M
 |buildSlice t len ps=>
  have leak:∀r:aL,bz (fun K:AV×ag->Prop=>fD tt t len (ps.toList.map (·.1)) us o.dst M (vg (some r) fun a b=>K (a,b))):=by
   intro r
   refine(bz.bind (D2 tt t len _ us o.dst M) (U:=fun z K=>q' z.1 z.2 fun a b=>K (a,b)) (fun z=>?_)).congr fun K=>Iff.rfl
   simp only[DX]
   refine bz.or (bz.one (z.1,z.2)) ?_
   refine(bz.bind (o7 [z.1] z.2) (U:=fun y K=>match y.1 with|[x]=>K (x,y.2)|_=>False) (fun y=>?_)).congr fun K=>Iff.rfl
   split
   ·exact bz.one (_,_)
   ·exact bz.false
  unfold qc
  simp only
  split
  ·split
   ·exact leak r
   ·exact bz.false
  ·exact leak r
 |call c=>
  obtain⟨callee,args,tys⟩:=c
  cases callee with
  |value f=>rw[ho] at h;simp[ee] at h
  |invoke _ _=>rw[ho] at h;simp[ee] at h
  |builtin b=>
   have app:bz (fun K:AV×ag->Prop=>AR (some r) tt args.toList tys.toList us o.dst M fun a b=>K (a,b)):=by
    unfold AR
    split
    ·split
     ·split
      ·exact sW tt _ _ o.dst M
      ·exact bz.false
     ·exact sW tt _ us o.dst M
    ·exact sW tt _ us o.dst M
   cases b<;>first|exact app|(rw[ho] at h;simp[ee] at h)
 |_=>rw[ho] at h;simp[ee] at h
end
section
def gv (all:List Oper) (fr:List AV):Option (Nat×Bool)->Option Bool
 |none=>some true
 |some (j,want)=>match nQ all j with
  |none=>none
  |some d=>match fr.getD d .top with
   | .bool b=>some (b==want)
   | .tup _=>some false
   |_=>none
def mh:List Operand->List Nat
 |[]=>[]
 | .tmp t::r=>t::mh r
 |_::r=>mh r
def kZ (all:List Oper) (o:Oper):List Nat:=
 mh (aG o.op)++(match o.guard with|some (j,_)=>(nQ all j).toList|none=>[])
def AX (all:List Oper) (x y:Oper):Bool:=
 (match x.dst with|some d=>!(kZ all y).contains d&&!(decide (y.dst=some d))|none=>true)&&(match y.dst with|some d=>!(kZ all x).contains d|none=>true)
def jT:Op->Bool
 | .store _ _ _=>true
 |_=>false
def sX:aL->Bool
 | .rows=>true
 |_=>false
def Ct:Op->Bool
 | .alloc _=>true
 |_=>false
def I6 (tt:TT) (r:aL):Op->Bool
 | .alloc _=>true
 | .makeSlice _ _ _=>true
 | .buildSlice t _ _=>match AQ r with|true=>true|false=>wO tt t
 | .call c=>match c.callee with
  | .builtin .append=>cr r&&yF c.args.toList
  |_=>false
 |_=>false
def oa (tt:TT) (r:aL) (x y:Op):Bool:=I6 tt r y&&(match i4 r x with
 |0=>true
 |1=>true
 |2=>cr r||Ct y
 |_=>I6 tt r x)
def FY (r:aL) (op:Op):Option Nat:=
 match r with
 | .boxes as=>match op with
  | .load _ x=>iU as x
  | .store _ x _=>iU as x
  |_=>none
 |_=>none
def D6 (r:aL) (x y:Op):Bool:=
 match FY r x,FY r y with
 |some a,some b=>!(Nat.beq a b)
 |_,_=>false
def rN (op:Op):Bool:=Nat.beq (ee op) 2
def ra (tt:TT) (r:aL) (all:List Oper) (x y:Oper):Bool:=
 AX all x y&&!(gq r&&(rN x.op||rN y.op))&&(oa tt r x.op y.op||(match i4 r x.op,i4 r y.op with
  |0,_=>true
  |_,0=>true
  |1,1=>true
  |1,2=>true
  |2,1=>true
  |_,_=>false)||(sX r&&(decide (ee x.op=1)&&jT y.op||jT x.op&&decide (ee y.op=1)))||D6 r x.op y.op)
section
variable {P:Program} {tt:TT} {all:List Oper} {r:aL}
theorem be (draw:Option aL) (o:Oper) (fr:List AV) (M:ag) (K:List AV->ag->Prop):b8 P tt draw all o fr M K↔(match gv all fr o.guard with
  |some true=>aZ P tt draw o ((aG o.op).map (cY fr)) M fun u M'=>K (cA fr o.dst u) M'
  |some false=>K (cA fr o.dst (.tup [])) M
  |none=>False):=by
 unfold b8 kY gv
 cases o.guard with
 |none=>simp only[fS,fj]
 |some p=>
  obtain⟨j,want⟩:=p
  simp only
  cases nQ all j with
  |none=>exact Iff.rfl
  |some d=>
   simp only[m0,fS,fj]
   cases fr.getD d .top with
   |bool b=>cases b<;>cases want<;>exact Iff.rfl
   |_=>exact Iff.rfl
theorem mi {fr:List AV} {d t:Nat} (h:d≠t) (u:AV):(fr.set d u).getD t .top=fr.getD t .top:=by
 simp[List.getD,List.getElem?_set_ne h]
theorem ml {fr:List AV} {d:Nat} (u:AV):∀(xs:List Operand),d∉mh xs->xs.map (cY (fr.set d u))=xs.map (cY fr)
 |[],_=>rfl
 |x::xs,h=>by
  cases x with
  |tmp t=>
   simp only[mh,List.mem_cons,not_or] at h
   simp only[List.map_cons,ml u xs h.2,cY,mi h.1]
  |const v=>simp only[mh] at h;simp only[List.map_cons,ml u xs h];rfl
  |func f=>simp only[mh] at h;simp only[List.map_cons,ml u xs h];rfl
  |global g=>simp only[mh] at h;simp only[List.map_cons,ml u xs h];rfl
theorem kw {o:Oper} {fr:List AV} {dd:Option Tmp} (h:∀d,dd=some d->d∉kZ all o) (u:AV):
  (aG o.op).map (cY (cA fr dd u))=(aG o.op).map (cY fr)/\gv all (cA fr dd u) o.guard=gv all fr o.guard:=by
 cases dd with
 |none=>exact⟨rfl,rfl⟩
 |some d=>
  have hd:=h d rfl
  simp only[kZ,List.mem_append,not_or] at hd
  refine⟨ml u _ hd.1,?_⟩
  unfold gv
  cases hg:o.guard with
  |none=>rfl
  |some p=>
   obtain⟨j,want⟩:=p
   rw[hg] at hd
   simp only at hd⊢
   cases hj:nQ all j with
   |none=>rfl
   |some d'=>
    rw[hj] at hd
    have:d≠d':=by simpa using hd.2
    simp only[cA,mi this]
theorem D7 {fr:List AV} {x y:Option Tmp} (h:∀d,x=some d->y≠some d) (u v:AV):cA (cA fr x u) y v=cA (cA fr y v) x u:=by
 cases x with
 |none=>rfl
 |some d=>
  cases y with
  |none=>rfl
  |some e=>
   have:d≠e:=fun he=>h d rfl (by rw[he])
   simp only[cA]
   rw[List.set_comm u v this]
theorem AY {x y:Oper} (h:AX all x y=true):(∀d,x.dst=some d->d∉kZ all y)/\(∀d,x.dst=some d->y.dst≠some d)/\(∀d,y.dst=some d->d∉kZ all x):=by
 unfold AX at h
 rw[Bool.and_eq_true] at h
 refine⟨fun d hd=>?_,fun d hd=>?_,fun d hd=>?_⟩
 ·have:=h.1;rw[hd] at this;simp at this;exact this.1
 ·have:=h.1;rw[hd] at this;simp at this;exact this.2
 ·have:=h.2;rw[hd] at this;simpa using this
theorem rb {o:Oper} {dd:Option Tmp} (h1:∀d,dd=some d->d∉kZ all o) (h2:∀d,dd=some d->o.dst≠some d) (draw:Option aL) (fr:List AV) (u:AV) (M:ag) (K:List AV->ag->Prop):
  b8 P tt draw all o (cA fr dd u) M K↔b8 P tt draw all o fr M fun fr' M'=>K (cA fr' dd u) M':=by
 rw[be,be]
 obtain⟨e1,e2⟩:=kw (fr:=fr) h1 u
 rw[e1,e2]
 have e3:∀v,cA (cA fr dd u) o.dst v=cA (cA fr o.dst v) dd u:=fun v=>D7 h2 u v
 simp only[e3]
theorem LA {r:Rs} {x y:AV} (hx:gY r (fun u=>u=x)) (hy:gY r (fun u=>u=y)):x=y:=by
 cases r with
 |no=>exact hx.elim
 |val u=>simp only[gY,b7] at*;rw[<-hx,<-hy]
 |need c u=>simp only[gY,b7] at*;simp only[bW] at*;rw[<-hx.2,<-hy.2]
 |arith c k n=>simp only[gY] at*;simp only[eT] at*;rw[<-hx.2,<-hy.2]
 |cmp p i=>simp only[gY] at*;simp only[kq] at*;rw[<-hx,<-hy]
theorem sY {o:Oper} (h:ee o.op=2) (us:List AV):(∀M K,aZ P tt (some r) o us M K=False)\/∃f l,∀M K,aZ P tt (some r) o us M K=yE r P f l M K:=by
 unfold aZ
 cases ho:o.op with
 |call c=>
  obtain⟨callee,args,tys⟩:=c
  cases callee with
  |value f=>
   simp only
   cases us with
   |nil=>exact .inl fun M K=>rfl
   |cons u us=>
    cases u with
    |fn f caps=>exact .inr ⟨f,us++caps,fun M K=>by simp only[m4]⟩
    |_=>exact .inl fun M K=>rfl
  |invoke _ _=>rw[ho] at h;simp[ee] at h
  |builtin b=>rw[ho] at h;cases b<;>simp[ee] at h
 |_=>rw[ho] at h;simp[ee] at h
theorem m7 (op:Op):ee op=0\/ee op=1\/ee op=2\/ee op=3:=by
 cases op<;>first|(left;rfl)|(right;left;rfl)|(right;right;right;rfl)|skip
 rename_i c
 obtain⟨callee,args,tys⟩:=c
 cases callee with
 |value f=>right;right;left;rfl
 |invoke _ _=>left;rfl
 |builtin b=>cases b<;>first|(left;rfl)|(right;right;right;rfl)
theorem sZ {t:TypeId} {p:Operand} {us:List AV} {M:ag} {K:ag->Prop} (h:d6 (some .rows) tt t p us M K):∃ℓ rt,∃(α:Type) (d:α) (enc:α->List AV) (l l':List α),M ℓ=some (.row rt d enc l)/\K (M.set ℓ (.row rt d enc l'))/\∀K':ag->Prop,K' (M.set ℓ (.row rt d enc l'))->d6 (some .rows) tt t p us M K':=by
 have leak:∀(cs:List AV) (M:ag) (K:List AV->ag->Prop),cD cs=true->eD cs M K=K cs M:=by
  intro cs
  induction cs with
  |nil=>intro M K _;rfl
  |cons u us ih=>
   intro M K hp
   simp only[cD] at hp
   split at hp
   ·rename_i hu
    cases u with
    |row a b c=>simp[oM] at hu
    |_=>simp only[eD];rw[ih _ _ hp]
   ·cases hp
 unfold d6 at h
 simp only at h
 split at h
 ·rename_i ℓ j o x
  split at h
  ·rename_i cs hcs
   split at h
   ·rename_i hp
    unfold d5 at h
    simp only[hcs] at h
    split at h
    ·rename_i cs0 i e ht
     cases e
     split at h
     ·rename_i hsz
      rw[leak cs M _ hp] at h
      split at h
      ·rename_i rt α d enc l hl
       split at h
       ·rename_i hp2 hle
        rw[f9] at h
        obtain⟨a',ha,hK⟩:=h
        refine⟨ℓ,rt,α,d,enc,l,l.set j a',hl,hK,fun K' hK'=>?_⟩
        unfold d6
        simp only[hcs,hp]
        unfold d5
        simp only[hcs,ht,hsz]
        rw[leak cs M _ hp,hl]
        simp only[hp,hle]
        rw[f9]
        exact⟨a',ha,hK'⟩
       ·exact h.elim
      ·exact h.elim
     ·exact h.elim
    ·exact h.elim
   ·exact h.elim
  ·exact h.elim
 ·exact h.elim
theorem Cu {t:TypeId} {p:Operand} {us:List AV} {M:ag} {ℓ:Nat} {rt:TypeId} {α:Type} {d:α} {enc:α->List AV} {l l':List α} (hl:M ℓ=some (.row rt d enc l)):
  m5 (some .rows) tt (.load t p) us (M.set ℓ (.row rt d enc l'))=m5 (some .rows) tt (.load t p) us M:=by
 simp only[m5]
 split
 ·rfl
 ·rename_i x hx
  unfold gm
  split
  ·rfl
  ·rename_i ℓ' o
   by_cases e:ℓ'=ℓ
   ·subst e;rw[ag.set_eq,hl]
   ·rw[ag.set_ne _ _ e]
  ·rename_i ℓ' i o
   exact absurd rfl (hx ℓ' i o)
  ·rfl
 ·rfl
theorem jr {M M1:ag} (he:∀ℓ B,M ℓ=some B->M1 ℓ=some B) {t:TypeId} {x:AV} {k:AV->Prop} (h:gY (gm tt t M x) k):gm tt t M1 x=gm tt t M x:=by
 unfold gm at h⊢
 cases x with
 |ptr ℓ o=>
  simp only at h⊢
  cases hM:M ℓ with
  |none=>rw[hM] at h;exact h.elim
  |some B=>rw[he ℓ B hM]
 |rel ℓ i o=>
  simp only at h⊢
  cases hM:M ℓ with
  |none=>rw[hM] at h;exact h.elim
  |some B=>rw[he ℓ B hM]
 |_=>rfl
theorem I7 {M M1:ag} (he:∀ℓ B,M ℓ=some B->M1 ℓ=some B) {op:Op} {us:List AV} {k:AV->Prop} (h:gY (m5 (some r) tt op us M) k):m5 (some r) tt op us M1=m5 (some r) tt op us M:=by
 cases r with
 |any=>
  have h:gY (uY tt op us M) k:=h
  show uY tt op us M1=uY tt op us M
  cases op with
  |load t x=>
   cases us with
   |nil=>rfl
   |cons a l=>
    cases l with
    |nil=>exact jr he h
    |cons _ _=>rfl
  |_=>rfl
 |flat=>
  have h:gY (uY tt op us M) k:=h
  show uY tt op us M1=uY tt op us M
  cases op with
  |load t x=>
   cases us with
   |nil=>rfl
   |cons a l=>
    cases l with
    |nil=>exact jr he h
    |cons _ _=>rfl
  |_=>rfl
 |own=>
  have h:gY (uY tt op us M) k:=h
  show uY tt op us M1=uY tt op us M
  cases op with
  |load t x=>
   cases us with
   |nil=>rfl
   |cons a l=>
    cases l with
    |nil=>exact jr he h
    |cons _ _=>rfl
  |_=>rfl
 |rows=>
  cases op with
  |load t x=>
   cases us with
   |nil=>rfl
   |cons a l=>
    cases l with
    |nil=>
     cases a with
     |rel _ _ _=>rfl
     |_=>simp only[m5] at h⊢;exact jr he h
    |cons _ _=>simp only[m5]
  |_=>rfl
 |pers=>cases op<;>rfl
 |fresh=>cases op<;>rfl
 |boxes as=>
  cases op with
  |load t x=>
   simp only[m5] at h⊢
   cases hs:iU as x with
   |none=>rfl
   |some l=>
    rw[hs] at h
    simp only at h⊢
    cases us with
    |nil=>rfl
    |cons a l=>
     cases l with
     |nil=>
      cases hb:vf as x a with
      |true=>
       simp only[hb] at h⊢
       exact jr he h
      |false=>simp only[hb]
     |cons _ _=>rfl
  |_=>rfl
theorem qf {t:TypeId} {dst:Option Tmp} {M:ag} {K:AV->ag->Prop} (h:kc tt t dst M K):∃d i,dst=some d/\tt.find t=some i/\M d=none/\K (.ptr d 0) (M.set d (.box t (i.zero.map dx))):=by
 unfold kc at h
 split at h
 ·rename_i d i ht
  split at h
  ·rename_i hd
   rw[di] at h
   exact⟨d,i,rfl,ht,hd,h⟩
  ·exact h.elim
 ·exact h.elim
theorem yI {t:TypeId} {dst:Option Tmp} {M:ag} {K:AV->ag->Prop} {d:Nat} {i:TI} (h1:dst=some d) (h2:tt.find t=some i) (h3:M d=none) (hk:K (.ptr d 0) (M.set d (.box t (i.zero.map dx)))):kc tt t dst M K:=by
 subst h1
 unfold kc
 simp only[h2,h3,di]
 exact hk
def I8 (T:ag->(AV->ag->Prop)->Prop) (M:ag) (K:AV->ag->Prop):Prop:=∃d v B,M d=none/\K v (M.set d B)/\∀(M':ag) (K':AV->ag->Prop),M' d=none->K' v (M'.set d B)->T M' K'
theorem FZ {t:TypeId} {us:List AV} {dst:Option Tmp} {M:ag} {K:AV->ag->Prop} (h:nM tt t us dst M K):I8 (fun M K=>nM tt t us dst M K) M K:=by
 unfold nM at h
 split at h
 ·rename_i d n c _ _ e _ ht
  split at h
  ·rename_i i hd hi
   split at h
   ·rename_i m hz hb
    rw[kU] at h
    obtain⟨h1,α,dd,enc,z,h2,hk⟩:=h
    refine⟨d,_,_,hd,hk,fun M' K' hd' hk'=>?_⟩
    unfold nM
    simp only[ht,hd',hi,hz,hb]
    rw[kU]
    rw[hb] at h1
    exact⟨h1,α,dd,enc,z,h2,hk'⟩
   ·exact h.elim
  ·exact h.elim
 ·exact h.elim
theorem vj:∀{cs:List AV},Cp cs=true->∀u∈cs,DY u=true
 |[],_,u,hu=>by cases hu
 |c::cs,h,u,hu=>by
  simp only[Cp] at h
  split at h
  ·rename_i hc
   rcases List.mem_cons.1 hu with e|hu
   ·rw[e];exact hc
   ·exact vj h u hu
  ·cases h
theorem s4:∀(cs:List AV) (M:ag) (K:List AV->ag->Prop),(∀u∈cs,DY u=true)->eD cs M K=K cs M
 |[],_,_,_=>rfl
 |u::us,M,K,h=>by
  have hu:=h u (List.mem_cons_self ..)
  cases u with
  |row a b c=>cases hu
  |_=>simp only[eD];rw[s4 us _ _ fun x hx=>h x (List.mem_cons_of_mem _ hx)]
theorem jU:∀(css:List (List AV)) (M:ag) (K:List (List AV)->ag->Prop),(∀cs∈css,∀u∈cs,DY u=true)->ke css M K=K css M
 |[],_,_,_=>rfl
 |cs::r,M,K,h=>by
  simp only[ke]
  rw[s4 cs M _ (h cs (List.mem_cons_self ..)),jU r M _ fun x hx=>h x (List.mem_cons_of_mem _ hx)]
theorem yJ {u:AV} {cs:List AV} (hu:KK u=true) (h1:bM u=some cs):∀x∈cs,DY x=true:=by
 cases u with
 |agg l=>simp only[bM,Option.some.injEq] at h1;subst h1;exact vj hu
 |row a b c=>cases hu
 |top=>cases h1
 |tup l=>cases h1
 |val v=>
  simp only[bM] at h1
  split at h1
  ·simp only[Option.some.injEq] at h1;subst h1;intro x hx;rw[List.mem_singleton] at hx;subst hx;rfl
  ·cases h1
 |_=>simp only[bM,Option.some.injEq] at h1;subst h1;intro x hx;rw[List.mem_singleton] at hx;subst hx;rfl
theorem il {n:Nat}:∀{us:List AV} {css:List (List AV)},m6 us=true->fK n us=some css->∀cs∈css,∀u∈cs,DY u=true
 |[],css,_,h=>by
  simp only[fK,Option.some.injEq] at h
  subst h
  intro cs hcs
  cases hcs
 |u::us,css,hf,h=>by
  simp only[m6] at hf
  split at hf
  ·rename_i hu
   simp only[fK] at h
   split at h
   ·rename_i cs0 r0 h1 h2
    split at h
    ·simp only[Option.some.injEq] at h
     subst h
     intro cs hcs
     rcases List.mem_cons.1 hcs with e|hcs
     ·subst e
      exact yJ hu h1
     ·exact il hf h2 cs hcs
    ·cases h
   ·cases h
  ·cases hf
theorem set_set (M:ag) (d:Nat) (B C:bf):(M.set d B).set d C=M.set d C:=by
 funext x
 by_cases e:x=d
 ·subst e;rw[ag.set_eq,ag.set_eq]
 ·rw[ag.set_ne _ _ e,ag.set_ne _ _ e,ag.set_ne _ _ e]
theorem yK {d:Nat} {n sz:Nat} {t:TypeId} {α:Type} {dd:α} {enc:α->List AV} {l:List α} {M:ag} {K:AV->ag->Prop} (h:q' (.row d n sz) (M.set d (.row t dd enc l)) K):
  ∃v B,K v (M.set d B)/\∀(M':ag) (K':AV->ag->Prop),K' v (M'.set d B)->q' (.row d n sz) (M'.set d (.row t dd enc l)) K':=by
 rcases h.out with h|h
 ·exact⟨_,_,h,fun M' K' hk=>bU hk⟩
 ·simp only[eD,ag.set_eq,set_set] at h
  refine⟨_,_,h,fun M' K' hk=>eH ?_⟩
  simp only[eD,ag.set_eq,set_set]
  exact hk
theorem D8 {t:TypeId} {len:Nat} {is:List Nat} {us:List AV} {dst:Option Tmp} {M:ag} {K:AV->ag->Prop} (hf:m6 us=true) (h:fD tt t len is us dst M (vg (some r) K)):I8 (fun M K=>fD tt t len is us dst M (vg (some r) K)) M K:=by
 unfold fD at h
 split at h
 ·rename_i d _ _ e _ ht
  split at h
  ·rename_i i hi
   split at h
   ·rename_i css0 c1 c2 c3 c4
    rw[jU css0 M _ (il hf c4)] at h
    split at h
    ·rename_i hd
     split at h
     ·rename_i hp
      split at h
      ·rename_i ns hn
       obtain⟨v,B,hk,back⟩:=yK h
       refine⟨d,v,B,hd,hk,fun M' K' hd' hk'=>?_⟩
       unfold fD
       simp only[ht,hi,c1,c2,c3,c4]
       rw[jU css0 M' _ (il hf c4)]
       simp only[hd',hp,hn]
       exact back M' K' hk'
      ·rename_i hn
       rw[jp] at h
       obtain⟨α,dd,enc,l,h1,h⟩:=h
       obtain⟨v,B,hk,back⟩:=yK h
       refine⟨d,v,B,hd,hk,fun M' K' hd' hk'=>?_⟩
       unfold fD
       simp only[ht,hi,c1,c2,c3,c4]
       rw[jU css0 M' _ (il hf c4)]
       simp only[hd',hp,hn]
       rw[jp]
       exact⟨α,dd,enc,l,h1,back M' K' hk'⟩
     ·exact h.elim
    ·exact h.elim
   ·exact h.elim
  ·exact h.elim
 ·exact h.elim
theorem F0 {ts:List TypeId} {α:Type} {dd:α} {enc:α->List AV} {l:List α} {dst:Option Tmp} {M:ag} {K:AV->ag->Prop} (h:lK tt ts [.nilsl, .sl dd enc l] dst M K):I8 (fun M K=>lK tt ts [.nilsl, .sl dd enc l] dst M K) M K:=by
 unfold lK at h
 simp only at h
 unfold gp at h
 split at h
 ·rename_i d t t' s x e
  simp only[List.cons.injEq,and_true] at e
  obtain⟨e1,e2⟩:=e
  subst e1;subst e2
  split at h
  ·rename_i _ _ e _ ht ht' hd
   split at h
   ·rename_i i hi
    split at h
    ·exact h.elim
    ·rename_i m hb
     simp only[wE] at h
     split at h
     ·rename_i hsz
      rw[bW] at h
      obtain⟨h1,hk⟩:=h
      refine⟨d,_,_,hd,hk,fun M' K' hd' hk'=>?_⟩
      unfold lK
      simp only
      unfold gp
      simp only[ht,ht',hd',hi,wE,hsz]
      split
      ·rename_i hb0;rw[hb] at hb0;cases hb0
      ·rw[bW];exact⟨h1,hk'⟩
     ·exact h.elim
   ·exact h.elim
  ·exact h.elim
 ·exact h.elim
theorem wQ {o:Oper} (hm:I6 tt r o.op=true) {us:List AV} {M:ag} {K:AV->ag->Prop} (h:aZ P tt (some r) o us M K):I8 (fun M K=>aZ P tt (some r) o us M K) M K:=by
 unfold aZ at h⊢
 cases ho:o.op with
 |alloc t=>
  rw[ho] at h
  simp only at h⊢
  obtain⟨d,i,h1,h2,h3,hk⟩:=qf h
  exact⟨d,_,_,h3,hk,fun M' K' hd' hk'=>yI h1 h2 hd' hk'⟩
 |makeSlice t x y=>
  rw[ho] at h
  simp only at h⊢
  exact FZ h
 |buildSlice t len ps=>
  rw[ho] at h hm
  have hs:(match AQ r with|true=>true|false=>wO tt t)=true:=hm
  simp only[qc,hs] at h⊢
  cases hf:m6 us with
  |true=>
   rw[hf] at h
   exact D8 hf h
  |false=>rw[hf] at h;exact h.elim
 |call c=>
  rw[ho] at h hm
  obtain⟨callee,args,tys⟩:=c
  cases callee with
  |builtin b=>
   cases b with
   |append=>
    simp only[I6,Bool.and_eq_true] at hm
    have hr:r= .fresh:=by cases r<;>first|rfl|(exact absurd hm.1 (by simp[cr]))
    subst hr
    simp only[AR,hm.2] at h⊢
    split at h
    ·exact F0 h
    ·exact h.elim
   |_=>cases hm
  |_=>cases hm
 |_=>rw[ho] at hm;cases hm
theorem vn {as:List (Nat×Nat)} {x:Operand} {a:AV} (h:vf as x a=true):∃ℓ o,a= .ptr ℓ o/\iU as x=some ℓ:=by
 cases a with
 |ptr ℓ o=>
  simp only[vf] at h
  cases hs:iU as x with
  |none=>rw[hs] at h;cases h
  |some ℓ'=>
   rw[hs] at h
   exact⟨ℓ,o,rfl,by rw[Nat.eq_of_beq_eq_true h]⟩
 |_=>cases h
theorem o8 {as:List (Nat×Nat)} {t:TypeId} {p:Operand} {us:List AV} {M:ag} {K:ag->Prop} (h:d6 (some (.boxes as)) tt t p us M K):∃ℓ B,iU as p=some ℓ/\K (M.set ℓ B)/\∀(M':ag) (K':ag->Prop),M' ℓ=M ℓ->K' (M'.set ℓ B)->d6 (some (.boxes as)) tt t p us M' K':=by
 unfold d6 at h
 simp only at h
 split at h
 ·rename_i a x
  split at h
  ·rename_i hb
   obtain⟨ℓ,o,rfl,hs⟩:=vn hb
   unfold d5 at h
   simp only at h
   split at h
   ·rename_i cs i hcs ht
    split at h
    ·rename_i hsz
     split at h
     ·rename_i bt cells hM
      split at h
      ·rename_i h1 h2
       rw[di] at h
       refine⟨ℓ,_,hs,h,fun M' K' hM' hK'=>?_⟩
       unfold d6
       simp only[hb]
       unfold d5
       simp only[hcs,ht,hsz,hM',hM,h1,h2]
       rw[di]
       exact hK'
      ·exact h.elim
     ·exact h.elim
    ·exact h.elim
   ·exact h.elim
  ·exact h.elim
 ·exact h.elim
theorem yL {as:List (Nat×Nat)} {t:TypeId} {x:Operand} {us:List AV} {M:ag} {ℓ ℓ':Nat} {B:bf} (hs:iU as x=some ℓ') (hne:ℓ'≠ℓ):m5 (some (.boxes as)) tt (.load t x) us (M.set ℓ B)=m5 (some (.boxes as)) tt (.load t x) us M:=by
 simp only[m5,hs]
 cases us with
 |nil=>rfl
 |cons a l=>
  cases l with
  |cons _ _=>rfl
  |nil=>
   simp only
   cases hb:vf as x a with
   |false=>rfl
   |true=>
    obtain⟨k,o,rfl,hk⟩:=vn hb
    rw[hs] at hk
    cases hk
    show gm tt t (M.set ℓ B) (.ptr ℓ' o)=gm tt t M (.ptr ℓ' o)
    unfold gm
    simp only
    rw[ag.set_ne _ _ hne]
theorem F1 {x y:Oper} (ho:gq r=true->ee x.op≠2/\ee y.op≠2) (hc:(oa tt r x.op y.op||(match i4 r x.op,i4 r y.op with
  |0,_=>true
  |_,0=>true
  |1,1=>true
  |1,2=>true
  |2,1=>true
  |_,_=>false)||(sX r&&(decide (ee x.op=1)&&jT y.op||jT x.op&&decide (ee y.op=1)))||D6 r x.op y.op)=true) (ux uy:List AV) (M:ag) (K:AV->AV->ag->Prop)
  (h:aZ P tt (some r) x ux M fun u M1=>aZ P tt (some r) y uy M1 fun v M2=>K u v M2):aZ P tt (some r) y uy M fun v M2=>aZ P tt (some r) x ux M2 fun u M1=>K u v M1:=by
 have rx:ee x.op=0\/ee x.op=1->∀M K,aZ P tt (some r) x ux M K=gY (m5 (some r) tt x.op ux M) fun u=>K u M:=fun h M K=>qe h r ux M K
 have ry:ee y.op=0\/ee y.op=1->∀M K,aZ P tt (some r) y uy M K=gY (m5 (some r) tt y.op uy M) fun u=>K u M:=fun h M K=>qe h r uy M K
 have RR:(ee x.op=0\/ee x.op=1)->(ee y.op=0\/ee y.op=1)->aZ P tt (some r) y uy M fun v M2=>aZ P tt (some r) x ux M2 fun u M1=>K u v M1:=by
  intro hx hy
  rw[rx hx] at h
  rw[ry hy]
  obtain⟨u,hu,h⟩:=gZ h
  rw[ry hy] at h
  obtain⟨v,hv,h⟩:=gZ h
  refine c8 hv fun v' e=>?_
  subst e
  rw[rx hx]
  refine c8 hu fun u' e=>?_
  subst e
  exact h
 have fresh0:∀op,cr r=true->(ee op=0\/ee op=1)->i4 r op=0:=by
  intro op hr h
  have hr:r= .fresh:=by cases r<;>first|rfl|cases hr
  subst hr
  cases op with
  |load t p=>rfl
  |call c=>
   rcases h with h|h
   ·exact h
   ·obtain⟨callee,args,tys⟩:=c
    cases callee with
    |builtin b=>cases b<;>simp[ee] at h
    |_=>simp[ee] at h
  |_=>first|rfl|(rcases h with h|h<;>simp[ee] at h)
 have RC:(ee x.op=0\/ee x.op=1)->ee y.op=2->aZ P tt (some r) y uy M fun v M2=>aZ P tt (some r) x ux M2 fun u M1=>K u v M1:=by
  intro hx hy
  rw[rx hx] at h
  obtain⟨u,hu,h⟩:=gZ h
  rcases sY (P:=P) (tt:=tt) (r:=r) hy uy with hf|⟨f,l,hf⟩
  ·rw[hf] at h;exact h.elim
  ·rw[hf] at h⊢
   by_cases hr:cr r=true
   ·rw[jR hr] at h⊢
    refine h.mono fun v M1 hk=>?_
    rw[rx hx,Cs r (fresh0 _ hr hx) ux M1 M]
    refine c8 hu fun u' e=>?_
    subst e
    exact hk
   have hr:cr r=false:=by cases hh:cr r<;>first|rfl|exact absurd hh hr
   have hro:gq r=false:=by cases hh:gq r<;>first|rfl|exact absurd hy (ho hh).2
   rw[jS hr hro] at h⊢
   simp only[fk] at*
   obtain⟨R,n,h1,h2,h3,h4⟩:=h
   refine⟨R,n,h1,h2,h3,fun v hv=>?_⟩
   show aZ P tt (some r) x ux M fun u M1=>K u v M1
   rw[rx hx]
   refine c8 hu fun u' e=>?_
   subst e
   exact h4 v hv
 have CR:ee x.op=2->(ee y.op=0\/ee y.op=1)->aZ P tt (some r) y uy M fun v M2=>aZ P tt (some r) x ux M2 fun u M1=>K u v M1:=by
  intro hx hy
  rw[ry hy]
  rcases sY (P:=P) (tt:=tt) (r:=r) hx ux with hf|⟨f,l,hf⟩
  ·rw[hf] at h;exact h.elim
  ·rw[hf] at h
   by_cases hr:cr r=true
   ·rw[jR hr] at h
    obtain⟨R,n,lb,L2,u',hs,ha,hb,hf2,hr2,hk⟩:=h.out
    rw[ry hy,Cs r (fresh0 _ hr hy) uy _ M] at hk
    obtain⟨v,hv,hk⟩:=gZ hk
    refine c8 hv fun v' e=>?_
    subst e
    rw[hf,jR hr]
    exact⟨R,n,lb,L2,u',hs,ha,hb,hf2,hr2,hk⟩
   have hr:cr r=false:=by cases hh:cr r<;>first|rfl|exact absurd hh hr
   have hro:gq r=false:=by cases hh:gq r<;>first|rfl|exact absurd hx (ho hh).1
   rw[jS hr hro] at h
   rw[fk] at h
   obtain⟨R,n,h1,h2,⟨u0,hu0⟩,h4⟩:=h
   have h0:aZ P tt (some r) y uy M fun v M2=>K u0 v M2:=h4 u0 hu0
   rw[ry hy] at h0
   obtain⟨v,hv,_⟩:=gZ h0
   refine c8 hv fun v' e=>?_
   subst e
   rw[hf,jS hr hro]
   rw[fk]
   refine⟨R,n,h1,h2,⟨u0,hu0⟩,fun u hu=>?_⟩
   have h5:aZ P tt (some r) y uy M fun v M2=>K u v M2:=h4 u hu
   rw[ry hy] at h5
   obtain⟨v2,hv2,h6⟩:=gZ h5
   rw[LA hv hv2]
   exact h6
 have NX:i4 r x.op=0->ee y.op=3->aZ P tt (some r) y uy M fun v M2=>aZ P tt (some r) x ux M2 fun u M1=>K u v M1:=by
  intro hx hy
  rw[rx (ki hx)] at h
  obtain⟨u,hu,h⟩:=gZ h
  obtain⟨p,hp⟩:=wP (P:=P) (tt:=tt) hy r uy M
  obtain⟨⟨v,M2⟩,h1,h2⟩:=(hp fun z=>K u z.1 z.2).1 h
  refine(hp fun z=>aZ P tt (some r) x ux z.2 fun u M1=>K u z.1 M1).2 ⟨(v,M2),h1,?_⟩
  show aZ P tt (some r) x ux M2 fun u M1=>K u v M1
  rw[rx (ki hx),Cs r hx ux M2 M]
  refine c8 hu fun u' e=>?_
  subst e
  exact h2
 have XN:ee x.op=3->i4 r y.op=0->aZ P tt (some r) y uy M fun v M2=>aZ P tt (some r) x ux M2 fun u M1=>K u v M1:=by
  intro hx hy
  obtain⟨p,hp⟩:=wP (P:=P) (tt:=tt) hx r ux M
  obtain⟨⟨u,M1⟩,h1,h2⟩:=(hp fun z=>aZ P tt (some r) y uy z.2 fun v M2=>K z.1 v M2).1 h
  simp only at h2
  rw[ry (ki hy),Cs r hy uy M1 M] at h2
  obtain⟨v,hv,h2⟩:=gZ h2
  rw[ry (ki hy)]
  refine c8 hv fun v' e=>?_
  subst e
  exact(hp fun z=>K z.1 v' z.2).2 ⟨(u,M1),h1,h2⟩
 have LS:ee x.op=1->jT y.op=true->sX r=true->aZ P tt (some r) y uy M fun v M2=>aZ P tt (some r) x ux M2 fun u M1=>K u v M1:=by
  intro hx hy hr
  have hr:r= .rows:=by cases r<;>first|rfl|cases hr
  subst hr
  rw[rx (.inr hx)] at h
  obtain⟨u,hu,h⟩:=gZ h
  obtain⟨t,p,hop⟩:∃t p,x.op= .load t p:=by
   cases hox:x.op with
   |load t p=>exact⟨t,p,rfl⟩
   |call c=>
    rw[hox] at hx
    obtain⟨callee,args,tys⟩:=c
    cases callee with
    |builtin b=>cases b<;>simp[ee] at hx
    |_=>simp[ee] at hx
   |_=>rw[hox] at hx;simp[ee] at hx
  cases hoy:y.op with
  |store t2 p2 q2=>
   simp only[aZ,hoy] at h⊢
   obtain⟨ℓ,rt,α,d,enc,l,l',hl,hK,hback⟩:=sZ h
   refine hback _ ?_
   have:=rx (.inr hx) (M.set ℓ (.row rt d enc l')) (fun u M1=>K u (.tup []) M1)
   unfold aZ at this
   rw[this,hop,Cu hl,<-hop]
   refine c8 hu fun u' e=>?_
   subst e
   exact hK
  |_=>rw[hoy] at hy;cases hy
 have SL:jT x.op=true->ee y.op=1->sX r=true->aZ P tt (some r) y uy M fun v M2=>aZ P tt (some r) x ux M2 fun u M1=>K u v M1:=by
  intro hx hy hr
  have hr:r= .rows:=by cases r<;>first|rfl|cases hr
  subst hr
  rw[ry (.inr hy)]
  obtain⟨t,p,hop⟩:∃t p,y.op= .load t p:=by
   cases hox:y.op with
   |load t p=>exact⟨t,p,rfl⟩
   |call c=>
    rw[hox] at hy
    obtain⟨callee,args,tys⟩:=c
    cases callee with
    |builtin b=>cases b<;>simp[ee] at hy
    |_=>simp[ee] at hy
   |_=>rw[hox] at hy;simp[ee] at hy
  cases hoy:x.op with
  |store t2 p2 q2=>
   have h2:d6 (some .rows) tt t2 p2 ux M fun M1=>aZ P tt (some .rows) y uy M1 fun v M2=>K (.tup []) v M2:=by
    have:=h
    unfold aZ at this
    rw[hoy] at this
    exact this
   obtain⟨ℓ,rt,α,d,enc,l,l',hl,hK,hback⟩:=sZ h2
   rw[ry (.inr hy),hop,Cu hl,<-hop] at hK
   refine c8 hK fun v hv=>?_
   unfold aZ
   rw[hoy]
   exact hback _ hv
  |_=>rw[hoy] at hx;cases hx
 have AL:oa tt r x.op y.op=true->aZ P tt (some r) y uy M fun v M2=>aZ P tt (some r) x ux M2 fun u M1=>K u v M1:=by
  intro hb
  unfold oa at hb
  rw[Bool.and_eq_true] at hb
  obtain⟨hy,hx⟩:=hb
  have ext:∀{d:Nat} {B:bf},M d=none->∀ℓ C,M ℓ=some C->(M.set d B) ℓ=some C:=by
   intro d B hd ℓ C hC
   rw[ag.set_ne _ _ (fun e=>by rw[e,hd] at hC;cases hC)]
   exact hC
  have rd:ee x.op=0\/ee x.op=1->aZ P tt (some r) y uy M fun v M2=>aZ P tt (some r) x ux M2 fun u M1=>K u v M1:=by
   intro hcx
   rw[rx hcx] at h
   obtain⟨u,hu,h⟩:=gZ h
   obtain⟨d,v,B,h3,hk,back⟩:=wQ hy h
   refine back M _ h3 ?_
   rw[rx hcx,I7 (ext h3) hu]
   refine c8 hu fun u' e=>?_
   subst e
   exact hk
  rcases m7 x.op with hcx|hcx|hcx|hcx
  ·exact rd (.inl hcx)
  ·exact rd (.inr hcx)
  ·have hcm:i4 r x.op=2:=by
    cases r<;>cases hox:x.op<;>first|(rw[hox] at hcx;exact hcx)|(rw[hox] at hcx;simp[ee] at hcx)
   rw[hcm] at hx
   rcases sY (P:=P) (tt:=tt) (r:=r) hcx ux with hf|⟨f,l,hf⟩
   ·rw[hf] at h;exact h.elim
   ·rw[hf] at h
    by_cases hr:cr r=true
    ·rw[jR hr] at h
     obtain⟨R,n,lb,L2,u',hs,ha,hb,hf2,hr2,h0⟩:=h.out
     obtain⟨d,v,B,h3,hk,back⟩:=wQ hy h0
     have h4:mg P f l M fun u M1=>M1 d=none/\K u v (M1.set d B):=⟨R,n,lb,L2,u',hs,ha,hb,hf2,hr2,h3,hk⟩
     obtain⟨hd,h5⟩:=h4.beside (K:=fun u M'=>K u v M')
     refine back M _ hd ?_
     rw[hf,jR hr]
     exact h5
    have hr:cr r=false:=by cases hh:cr r<;>first|rfl|exact absurd hh hr
    have hro:gq r=false:=by cases hh:gq r<;>first|rfl|exact absurd hcx (ho hh).1
    have hya:Ct y.op=true:=by simpa[hr] using hx
    obtain⟨t,hoy⟩:∃t,y.op= .alloc t:=by
     cases hoy:y.op with
     |alloc t=>exact⟨t,rfl⟩
     |_=>rw[hoy] at hya;cases hya
    have ey:∀M K,aZ P tt (some r) y uy M K=kc tt t y.dst M K:=by
     intro M K
     unfold aZ
     rw[hoy]
    rw[ey]
    rw[jS hr hro,fk] at h
    obtain⟨R,n,h1,h2,⟨u0,hu0⟩,h4⟩:=h
    have h5:=h4 u0 hu0
    rw[ey] at h5
    obtain⟨d,i,e1,e2,e3,_⟩:=qf h5
    refine yI e1 e2 e3 ?_
    rw[hf,jS hr hro,fk]
    refine⟨R,n,h1,h2,⟨u0,hu0⟩,fun u hu=>?_⟩
    have h6:=h4 u hu
    rw[ey] at h6
    obtain⟨d',i',e1',e2',e3',hk⟩:=qf h6
    rw[e1] at e1';cases e1'
    rw[e2] at e2';cases e2'
    exact hk
  ·have hcm:i4 r x.op=3:=by
    cases r<;>cases hox:x.op<;>first|(rw[hox] at hcx;exact hcx)|(rw[hox] at hcx;simp[ee] at hcx)
   rw[hcm] at hx
   obtain⟨d',v',B',f3,h,back'⟩:=wQ hx h
   obtain⟨d,v,B,e3,hk,back⟩:=wQ hy h
   have hne:d≠d':=fun e=>by subst e;rw[ag.set_eq] at e3;cases e3
   rw[ag.set_ne _ _ hne] at e3
   refine back M _ e3 (back' (M.set d B) _ (by rw[ag.set_ne _ _ (Ne.symm hne)];exact f3) ?_)
   rw[ag.set_comm _ _ _ hne]
   exact hk
 by_cases hbx:D6 r x.op y.op=true
 ·cases r with
  |boxes as=>
   simp only[D6,FY] at hbx
   cases hox:x.op with
   |load t1 p1=>
    cases hoy:y.op with
    |load t2 p2=>exact RR (by rw[hox];exact .inr rfl) (by rw[hoy];exact .inr rfl)
    |store t2 p2 q2=>
     rw[hox,hoy] at hbx
     simp only at hbx
     cases h1:iU as p1 with
     |none=>rw[h1] at hbx;cases hbx
     |some l1=>
      rw[rx (by rw[hox];exact .inr rfl)] at h
      obtain⟨u,hu,h⟩:=gZ h
      simp only[aZ,hoy] at h⊢
      obtain⟨l2,B,h2,hk,back⟩:=o8 h
      rw[h1,h2] at hbx
      have hne:l1≠l2:=fun e=>by subst e;simp at hbx
      refine back M _ rfl ?_
      have e:=rx (by rw[hox];exact .inr rfl) (M.set l2 B) (fun u M1=>K u (.tup []) M1)
      unfold aZ at e
      rw[e,hox,yL h1 hne,<-hox]
      refine c8 hu fun u' e=>?_
      subst e
      exact hk
    |_=>exfalso;rw[hox,hoy] at hbx;simp only at hbx;cases hq:iU as p1<;>rw[hq] at hbx<;>cases hbx
   |store t1 p1 q1=>
    cases hoy:y.op with
    |load t2 p2=>
     rw[hox,hoy] at hbx
     simp only at hbx
     have h':d6 (some (.boxes as)) tt t1 p1 ux M fun M1=>aZ P tt (some (.boxes as)) y uy M1 fun v M2=>K (.tup []) v M2:=by
      have:=h
      unfold aZ at this
      rw[hox] at this
      exact this
     obtain⟨l1,B,h1,hk,back⟩:=o8 h'
     cases h2:iU as p2 with
     |none=>rw[h1,h2] at hbx;cases hbx
     |some l2=>
      rw[h1,h2] at hbx
      have hne:l2≠l1:=fun e=>by subst e;simp at hbx
      rw[ry (by rw[hoy];exact .inr rfl),hoy,yL h2 hne,<-hoy] at hk
      rw[ry (by rw[hoy];exact .inr rfl)]
      refine c8 hk fun v hv=>?_
      unfold aZ
      rw[hox]
      exact back M _ rfl hv
    |store t2 p2 q2=>
     rw[hox,hoy] at hbx
     simp only at hbx
     have h':d6 (some (.boxes as)) tt t1 p1 ux M fun M1=>d6 (some (.boxes as)) tt t2 p2 uy M1 fun M2=>K (.tup []) (.tup []) M2:=by
      have:=h
      unfold aZ at this
      rw[hox,hoy] at this
      exact this
     obtain⟨l1,B1,h1,hk,back1⟩:=o8 h'
     obtain⟨l2,B2,h2,hk2,back2⟩:=o8 hk
     rw[h1,h2] at hbx
     have hne:l1≠l2:=fun e=>by subst e;simp at hbx
     unfold aZ
     rw[hoy]
     simp only
     refine back2 M _ (by rw[ag.set_ne _ _ (Ne.symm hne)]) ?_
     rw[hox]
     simp only
     refine back1 _ _ (by rw[ag.set_ne _ _ hne]) ?_
     rw[ag.set_comm _ _ _ (Ne.symm hne)]
     exact hk2
    |_=>exfalso;rw[hox,hoy] at hbx;simp only at hbx;cases hq:iU as p1<;>rw[hq] at hbx<;>cases hbx
   |_=>exfalso;rw[hox] at hbx;simp only at hbx;cases hbx
  |_=>cases hbx
 have hbx:D6 r x.op y.op=false:=by cases hh:D6 r x.op y.op<;>first|rfl|exact absurd hh hbx
 rw[hbx,Bool.or_false] at hc
 by_cases hal:oa tt r x.op y.op=true
 ·exact AL hal
 have hal:oa tt r x.op y.op=false:=by cases hh:oa tt r x.op y.op<;>first|rfl|exact absurd hh hal
 rw[hal,Bool.false_or] at hc
 by_cases hsp:(sX r&&(decide (ee x.op=1)&&jT y.op||jT x.op&&decide (ee y.op=1)))=true
 ·simp only[Bool.and_eq_true,Bool.or_eq_true,decide_eq_true_eq] at hsp
  rcases hsp.2 with h2|h2
  ·exact LS h2.1 h2.2 hsp.1
  ·exact SL h2.1 h2.2 hsp.1
 replace hc:(match i4 r x.op,i4 r y.op with
  |0,_=>true
  |_,0=>true
  |1,1=>true
  |1,2=>true
  |2,1=>true
  |_,_=>false)=true:=by
  rw[Bool.or_eq_true] at hc
  exact hc.resolve_right hsp
 have cc:∀op,i4 r op=0\/i4 r op=1\/i4 r op=2\/i4 r op=3:=by
  intro op
  have:=m7 op
  cases r with
  |boxes as=>
   cases op with
   |load t x=>
    simp only[i4]
    cases iU as x with
    |none=>exact .inl rfl
    |some _=>exact .inr (.inl rfl)
   |_=>exact this
  |_=>cases op<;>first|exact .inl rfl|exact this
 rcases cc x.op with hx|hx|hx|hx<;>rcases cc y.op with hy|hy|hy|hy<;>
  first
   |exact RR (ki hx) (ki hy)
   |exact RR (ki hx) (.inr (iK hy))
   |exact RR (.inr (iK hx)) (ki hy)
   |exact RR (.inr (iK hx)) (.inr (iK hy))
   |exact RC (ki hx) (iK hy)
   |exact RC (.inr (iK hx)) (iK hy)
   |exact CR (iK hx) (ki hy)
   |exact CR (iK hx) (.inr (iK hy))
   |exact NX hx (iK hy)
   |exact XN (iK hx) hy
   |(rw[hx,hy] at hc;simp at hc)
theorem s5 {o:Oper} (hno:gq r=true->ee o.op≠2) (us:List AV) (M:ag) (h:aZ P tt (some r) o us M fun _ _=>False):False:=by
 rcases m7 o.op with hc|hc|hc|hc
 ·rw[qe (.inl hc)] at h;obtain⟨_,_,h⟩:=gZ h;exact h
 ·rw[qe (.inr hc)] at h;obtain⟨_,_,h⟩:=gZ h;exact h
 ·rcases sY (P:=P) (tt:=tt) (r:=r) hc us with hf|⟨f,l,hf⟩
  ·rw[hf] at h;exact h
  ·rw[hf] at h
   by_cases hr:cr r=true
   ·rw[jR hr] at h
    obtain⟨R,n,lb,L2,u',hs,ha,hb,hf2,hr2,hk⟩:=h.out
    exact hk
   have hr:cr r=false:=by cases hh:cr r<;>first|rfl|exact absurd hh hr
   have hro:gq r=false:=by cases hh:gq r<;>first|rfl|exact absurd hc (hno hh)
   rw[jS hr hro] at h
   rw[fk] at h
   obtain⟨R,n,h1,h2,⟨u0,hu0⟩,h4⟩:=h
   exact h4 u0 hu0
 ·obtain⟨p,hp⟩:=wP (P:=P) (tt:=tt) hc r us M
  obtain⟨_,_,h⟩:=(hp fun _=>False).1 h
  exact h
theorem ji {o:Oper} {us:List AV} {M:ag} {K K':AV->ag->Prop} (h:aZ P tt (some r) o us M K) (hk:∀u M',K u M'->K' u M'):aZ P tt (some r) o us M K':=by
 rcases m7 o.op with hc|hc|hc|hc
 ·rw[qe (.inl hc)] at*;exact c8 h fun u=>hk u M
 ·rw[qe (.inr hc)] at*;exact c8 h fun u=>hk u M
 ·rcases sY (P:=P) (tt:=tt) (r:=r) hc us with hf|⟨f,l,hf⟩
  ·rw[hf] at h;exact h.elim
  ·rw[hf] at*
   by_cases hr:cr r=true
   ·rw[jR hr] at h⊢
    exact h.mono hk
   have hr:cr r=false:=by cases hh:cr r<;>first|rfl|exact absurd hh hr
   by_cases hro:gq r=true
   ·rw[Cn hro] at h⊢
    exact h.mono hk
   have hro:gq r=false:=by cases hh:gq r<;>first|rfl|exact absurd hh hro
   rw[jS hr hro] at h⊢
   simp only[fk] at*
   obtain⟨R,n,h1,h2,h3,h4⟩:=h
   exact⟨R,n,h1,h2,h3,fun u hu=>hk u M (h4 u hu)⟩
 ·obtain⟨p,hp⟩:=wP (P:=P) (tt:=tt) hc r us M
  obtain⟨z,h1,h2⟩:=(hp fun z=>K z.1 z.2).1 h
  exact(hp fun z=>K' z.1 z.2).2 ⟨z,h1,hk _ _ h2⟩
theorem dz {o:Oper} {fr:List AV} {M:ag} {K K':List AV->ag->Prop} (h:b8 P tt (some r) all o fr M K) (hk:∀f M',K f M'->K' f M'):b8 P tt (some r) all o fr M K':=by
 rw[be] at*
 split at h
 ·exact ji h fun u M'=>hk _ _
 ·exact hk _ _ h
 ·exact h
theorem s6 {x y:Oper} (hc:ra tt r all x y=true) (ho:gq r=true):ee x.op≠2/\ee y.op≠2:=by
 unfold ra at hc
 rw[Bool.and_eq_true,Bool.and_eq_true] at hc
 have h:=hc.1.2
 rw[ho] at h
 constructor
 ·intro e
  unfold rN at h
  rw[e] at h
  simp at h
 ·intro e
  unfold rN at h
  rw[e] at h
  simp at h
theorem vo {x y:Oper} (hc:ra tt r all x y=true) (fr:List AV) (M:ag) (K:List AV->ag->Prop)
  (h:b8 P tt (some r) all x fr M fun fr1 M1=>b8 P tt (some r) all y fr1 M1 K):b8 P tt (some r) all y fr M fun fr2 M2=>b8 P tt (some r) all x fr2 M2 K:=by
 have hno:=s6 hc
 unfold ra at hc
 rw[Bool.and_eq_true,Bool.and_eq_true] at hc
 obtain⟨⟨hap,_⟩,hcl⟩:=hc
 obtain⟨a1,a2,a3⟩:=AY hap
 have a4:∀d,y.dst=some d->x.dst≠some d:=fun d hd he=>a2 d he hd
 rw[be] at h
 cases hgx:gv all fr x.guard with
 |none=>rw[hgx] at h;exact h.elim
 |some bx=>
  rw[hgx] at h
  cases bx with
  |false=>
   simp only at h
   rw[rb a1 a2] at h
   refine(?_:b8 P tt (some r) all y fr M fun fr2 M2=>b8 P tt (some r) all x fr2 M2 K)
   rw[be] at h⊢
   split at h
   ·refine ji h fun v M' hv=>?_
    rw[be,(kw (fr:=fr) a3 v).2,hgx]
    exact hv
   ·rw[be,(kw (fr:=fr) a3 _).2,hgx]
    exact h
   ·exact h
  |true=>
   simp only at h
   have h':aZ P tt (some r) x ((aG x.op).map (cY fr)) M fun u M1=>b8 P tt (some r) all y fr M1 fun fr2 M2=>K (cA fr2 x.dst u) M2:=
    ji h fun u M1 hh=>(rb a1 a2 (some r) fr u M1 K).1 hh
   rw[be]
   have hx:∀v M2 K,b8 P tt (some r) all x (cA fr y.dst v) M2 K↔aZ P tt (some r) x ((aG x.op).map (cY fr)) M2 fun u M1=>K (cA (cA fr y.dst v) x.dst u) M1:=by
    intro v M2 K
    rw[be,(kw (fr:=fr) a3 v).2,hgx,(kw (fr:=fr) a3 v).1]
   cases hgy:gv all fr y.guard with
   |none=>
    exfalso
    refine s5 (fun hh=>(hno hh).1) _ _ (ji h' fun u M1 hh=>?_)
    rw[be,hgy] at hh
    exact hh
   |some bb=>
    cases bb with
    |false=>
     simp only
     rw[hx]
     refine ji h' fun u M1 hh=>?_
     rw[be,hgy] at hh
     exact hh
    |true=>
     simp only
     simp only[hx]
     refine F1 (x:=x) (y:=y) hno hcl _ _ M (fun u v M'=>K (cA (cA fr y.dst v) x.dst u) M') (ji h' fun u M1 hh=>?_)
     rw[be,hgy] at hh
     exact hh
end
end
section
def vp:Nat->List Oper->Nat->Nat->Bool
 |0,_,_,_=>false
 |n+1,all,i,j=>match all[j]? with
  |some o=>o.after.toList.any fun e=>Region.binds .any e&&(decide (e.on=i)||vp n all i e.on)
  |none=>false
def s7:List Oper->Nat->Bool
 |[],_=>true
 |o::r,k=>o.after.toList.all (fun e=>!(Region.binds .any e)||decide (e.on<k))&&s7 r (k+1)
def iy (tt:TT) (r:aL) (all:List Oper):Bool:=
 s7 all 0&&(List.range all.length).all fun i=>(List.range all.length).all fun j=>decide (j<=i)||
  (match all[i]?,all[j]? with|some x,some y=>ra tt r all x y|_,_=>false)||vp all.length all i j
section
variable {P:Program} {tt:TT} {all:List Oper} {K:List AV->ag->Prop} {r:aL}
theorem qg:∀(l:List Oper) (k:Nat),s7 l k=true->∀(i:Nat) o,l[i]? =some o->∀e∈o.after,Region.binds .any e=true->e.on<k+i
 |[],_,_,i,o,h=>by simp at h
 |x::r,k,h,i,o,hi=>by
  simp only[s7,Bool.and_eq_true] at h
  intro e he hb
  cases i with
  |zero=>
   simp at hi;subst hi
   have:=List.all_eq_true.1 h.1 e (by simpa using he)
   rw[hb] at this
   simpa using this
  |succ i=>
   have:=qg r (k+1) h.2 i o (by simpa using hi) e he hb
   omega
def Nz (P:Program) (tt:TT) (r:aL) (all:List Oper) (i:Nat) (fr:List AV) (M:ag) (K:List AV->ag->Prop):Prop:=
 match all[i]? with
 |none=>K fr M
 |some o=>b8 P tt (some r) all o fr M K
def mm (P:Program) (tt:TT) (r:aL) (all:List Oper) (K:List AV->ag->Prop):Nat->Array Bool->List AV->ag->Prop
 |0,listed,fr,M=>Region.ready .any all.toArray listed=[]/\K fr M
 |fuel+1,listed,fr,M=>(Region.ready .any all.toArray listed=[]->K fr M)/\
  ∀i∈Region.ready .any all.toArray listed,Nz P tt r all i fr M (mm P tt r all K fuel (listed.setIfInBounds i true))
theorem vr (hT:bn P tt=true) {F:ai} {Q:Exit->Act->World->Prop}:∀(fuel:Nat) (listed:Array Bool) (S:ai) (ρ:aE) (w:World) (a:Act) (fr:List AV) (M:ag),mm P tt r all K fuel listed fr M->aD S F ρ M w->fJ S ρ a fr->
  (∀a' w',dG S F ρ w K a' w'->Q .normal a' w')->wpAny P .any all.toArray Q fuel listed a w
 |0,listed,S,ρ,w,a,fr,M,h,hM,hF,hQ=>⟨h.1,hQ _ _ ⟨fr,M,S,ρ,h.2,ai.le_refl _,aE.le_refl _,hM,hF,eo.refl _⟩⟩
 |fuel+1,listed,S,ρ,w,a,fr,M,h,hM,hF,hQ=>by
  refine⟨fun h0=>hQ _ _ ⟨fr,M,S,ρ,h.1 h0,ai.le_refl _,aE.le_refl _,hM,hF,eo.refl _⟩,fun i hi=>?_⟩
  have hs:=h.2 i hi
  unfold Nz at hs
  unfold wpOp
  obtain⟨_,o,ho,_⟩:=mem_ready.1 hi
  have ho':all[i]? =some o:=by simpa using ho
  rw[ho'] at hs
  rw[ho]
  simp only at hs⊢
  have hk:=o0 (Q:=Q) hT hs hM hF
  have next:∀a' w',dG S F ρ w (mm P tt r all K fuel (listed.setIfInBounds i true)) a' w'->wpAny P .any all.toArray Q fuel (listed.setIfInBounds i true) a' w':=by
   rintro a' w' ⟨fr',M',S',ρ',hk,h1,h2,h3,h4,h5⟩
   exact vr hT fuel _ S' ρ' w' a' fr' M' hk h3 h4 fun a'' w'' h'=>hQ _ _ (h'.trans h1 h2 h5)
  split
  ·rename_i hw
   rw[if_pos hw] at hk
   exact .inl (Oper.wp_mono next hk)
  ·rename_i hw
   rw[if_neg hw] at hk
   exact next _ _ hk
def k9 (all:List Oper) (listed:Array Bool):Prop:=
 listed.size=all.length/\∀(j:Nat) o,all[j]? =some o->listed.getD j true=true->∀e∈o.after,Region.binds .any e=true->listed.getD e.on false=true
theorem mn {listed:Array Bool} (hc:k9 all listed):∀(n i j:Nat),vp n all i j=true->(∀o,all[j]? =some o->∀e∈o.after,Region.binds .any e=true->listed.getD e.on false=true)->listed.getD i false=true
 |0,i,j,h,_=>by simp[vp] at h
 |n+1,i,j,h,hj=>by
  simp only[vp] at h
  split at h
  ·rename_i o ho
   obtain⟨e,he,hb⟩:=List.any_eq_true.1 h
   rw[Bool.and_eq_true,Bool.or_eq_true] at hb
   have hl:=hj o ho e (by simpa using he) hb.1
   rcases hb.2 with h1|h1
   ·have:e.on=i:=by simpa using h1
    rw[<-this];exact hl
   ·refine mn hc n i e.on h1 fun o' ho' e' he' hb'=>hc.2 e.on o' ho' ?_ e' he' hb'
    have hlt:e.on<listed.size:=by rw[hc.1];exact(List.getElem?_eq_some_iff.1 ho').1
    simpa[hlt] using hl
  ·simp at h
theorem la {listed:Array Bool} (hc:k9 all listed) {j:Nat} (hj:j∈Region.ready .any all.toArray listed):k9 all (listed.setIfInBounds j true):=by
 refine⟨by simp[hc.1],fun i o hi hl e he hb=>?_⟩
 obtain⟨_,o',ho',hall⟩:=mem_ready.1 hj
 by_cases hij:i=j
 ·subst hij
  have:o'=o:=by
   have h1:all.toArray[i]? =some o:=by simpa using hi
   rw[ho'] at h1;injection h1
  subst this
  exact getD_set_true (hall e he hb)
 ·rw[getD_set_ne true (Ne.symm hij)] at hl
  exact getD_set_true (hc.2 i o hi hl e he hb)
theorem s8 {o:Oper} (hno:gq r=true->ee o.op≠2) {fr:List AV} {M:ag} (h:b8 P tt (some r) all o fr M fun _ _=>False):False:=by
 rw[be] at h
 split at h
 ·exact s5 hno _ _ h
 ·exact h
 ·exact h
theorem vt (hB:iy tt r all=true) {k j:Nat} {x:Oper} (hx:all[k]? =some x) {listed:Array Bool} (hc:k9 all listed) (hpre:∀m,m<k->listed.getD m true=true) (hk:k∈Region.ready .any all.toArray listed)
  (hj:j∈Region.ready .any all.toArray listed) (hjk:j≠k):∃y,all[j]? =some y/\k<j/\ra tt r all x y=true:=by
 obtain⟨hjun,y,hy,hall⟩:=mem_ready.1 hj
 have hy':all[j]? =some y:=by simpa using hy
 have hklt:k<j:=by
  rcases Nat.lt_or_ge k j with h|h
  ·exact h
  ·exfalso
   have:=hpre j (by omega)
   rw[this] at hjun;cases hjun
 have hkun:=(mem_ready.1 hk).1
 have hlen:=(List.getElem?_eq_some_iff.1 hx).1
 have hjlen:=(List.getElem?_eq_some_iff.1 hy').1
 refine⟨y,hy',hklt,?_⟩
 unfold iy at hB
 rw[Bool.and_eq_true] at hB
 have h1:=List.all_eq_true.1 hB.2 k (List.mem_range.2 hlen)
 have h2:=List.all_eq_true.1 h1 j (List.mem_range.2 hjlen)
 rw[hx,hy',Bool.or_eq_true,Bool.or_eq_true] at h2
 rcases h2 with (h2|h2)|h2
 ·simp at h2;omega
 ·exact h2
 ·exfalso
  have:=mn hc _ k j h2 (fun o ho e he hb=>by
   rw[hy'] at ho;cases ho;exact hall e he hb)
  have hks:k<listed.size:=by rw[hc.1];exact hlen
  simp[hks] at this hkun
  rw[this] at hkun;cases hkun
theorem AZ (hB:iy tt r all=true) {k:Nat} {x:Oper} (hx:all[k]? =some x):∀(fuel:Nat) (listed:Array Bool) (fr:List AV) (M:ag),k9 all listed->(∀m,m<k->listed.getD m true=true)->
  k∈Region.ready .any all.toArray listed->b8 P tt (some r) all x fr M (mm P tt r all K fuel (listed.setIfInBounds k true))->mm P tt r all K (fuel+1) listed fr M:=by
 intro fuel
 induction fuel with
 |zero=>
  intro listed fr M hc hpre hk H
  refine⟨fun h=>(by rw[h] at hk;cases hk),fun j hj=>?_⟩
  by_cases hjk:j=k
  ·subst hjk
   unfold Nz
   rw[hx]
   exact H
  ·exfalso
   obtain⟨y,_,_,hcomm⟩:=vt hB hx hc hpre hk hj hjk
   refine s8 (fun ho=>(s6 hcomm ho).1) (dz H fun f M' h=>?_)
   have:=ready_mono hj hjk
   rw[h.1] at this
   cases this
 |succ fuel ih=>
  intro listed fr M hc hpre hk H
  refine⟨fun h=>(by rw[h] at hk;cases hk),fun j hj=>?_⟩
  by_cases hjk:j=k
  ·subst hjk
   unfold Nz
   rw[hx]
   exact H
  ·obtain⟨y,hy',hklt,hcomm⟩:=vt hB hx hc hpre hk hj hjk
   unfold Nz
   rw[hy']
   have H2:=dz H fun f M' (h:mm P tt r all K (fuel+1) (listed.setIfInBounds k true) f M')=>h.2 j (ready_mono hj hjk)
   have H3:b8 P tt (some r) all x fr M fun f M'=>b8 P tt (some r) all y f M' (mm P tt r all K fuel ((listed.setIfInBounds k true).setIfInBounds j true)):=
    dz H2 fun f M' h=>by unfold Nz at h;rw[hy'] at h;exact h
   have H4:=vo hcomm fr M _ H3
   refine dz H4 fun f M' h=>?_
   refine ih (listed.setIfInBounds j true) f M' (la hc hj) (fun m hm=>by rw[getD_set_ne true (by omega)];exact hpre m hm) (ready_mono hk (fun e=>hjk e.symm)) ?_
   rw[Array.setIfInBounds_comm _ _ hjk]
   exact h
theorem vu (hB:iy tt r all=true):∀(l:List Oper) (k:Nat) (listed:Array Bool) (fr:List AV) (M:ag),all.drop k=l->k+l.length=all.length->k9 all listed->(∀m,m<k->listed.getD m true=true)->(∀m,k<=m->m<all.length->listed.getD m true=false)->
  cF P tt (some r) all l fr M K->mm P tt r all K l.length listed fr M
 |[],k,listed,fr,M,hd,hl,hc,h1,h2,h=>by
  refine⟨?_,h⟩
  cases hr:Region.ready .any all.toArray listed with
  |nil=>rfl
  |cons j r=>
   have hj:j∈Region.ready .any all.toArray listed:=by rw[hr];simp
   obtain⟨hu,o,ho,_⟩:=mem_ready.1 hj
   have:j<all.length:=by have:=(Array.getElem?_eq_some_iff.1 ho).1;simpa using this
   simp at hl
   rw[h1 j (by omega)] at hu;cases hu
 |o::r,k,listed,fr,M,hd,hl,hc,h1,h2,h=>by
  simp only[List.length_cons] at hl⊢
  have hk:all[k]? =some o:=by
   have:(all.drop k)[0]? =some o:=by rw[hd];rfl
   rw[List.getElem?_drop] at this
   simpa using this
  have hB':=hB
  unfold iy at hB'
  rw[Bool.and_eq_true] at hB'
  have hready:k∈Region.ready .any all.toArray listed:=by
   rw[mem_ready]
   refine⟨h2 k (Nat.le_refl _) (by omega),o,by simpa using hk,fun e he hb=>?_⟩
   have hlt:=qg all 0 hB'.1 k o hk e he hb
   have:=h1 e.on (by omega)
   have hs:e.on<listed.size:=by rw[hc.1];omega
   simpa[hs] using this
  refine AZ hB hk r.length listed fr M hc h1 hready (dz h fun f M' hh=>?_)
  refine vu hB r (k+1) _ f M' (by rw[<-List.drop_drop,hd];rfl) (by omega) (la hc hready) (fun m hm=>?_) (fun m hm hml=>?_) hh
  ·by_cases e:m=k
   ·subst e
    have hs:m<listed.size:=by rw[hc.1];omega
    simp[hs]
   ·rw[getD_set_ne true (Ne.symm e)];exact h1 m (by omega)
  ·rw[getD_set_ne true (by omega)];exact h2 m (by omega) hml
theorem yM (hT:bn P tt=true) (hm:P.follows .mixedOrders=true) (hB:iy tt r all=true) {S F:ai} {ρ:aE} {M:ag} {w:World} {a:Act} {fr:List AV} {id:Nat} {Q:Exit->Act->World->Prop}
  (h:cF P tt (some r) all all fr M K) (hM:aD S F ρ M w) (hF:fJ S ρ a fr) (hQ:∀a' w',dG S F ρ w K a' w'->Q .normal a' w'):(Code.region id all.toArray true).wp P Q a w:=by
 refine wp_region_any hm ?_
 have hA:=vu (P:=P) (tt:=tt) (K:=K) hB all 0 (Array.replicate all.length false) fr M rfl (by simp) ⟨by simp,fun j o hj hl=>by
   have:=(List.getElem?_eq_some_iff.1 hj).1
   simp[this] at hl⟩ (by simp) (fun m _ hm=>by simp[hm]) h
 have:=vr hT all.length _ S ρ {w with drawn:=w.drawn+1} a fr M hA (hM.drawn _) hF (Q:=Q) (fun a' w' h'=>hQ a' w' (h'.trans (ai.le_refl _) (aE.le_refl _) (eo.drawn _ _ (Nat.le_succ _))))
 simpa using this
end
def I9 (ds:List Nat) (o:Oper):Bool:=match o.dst with
 |some d=>!(ds.any (Nat.beq d))
 |none=>true
def IB (r:aL) (ds:List Nat) (o:Oper):aL:=match I9 ds o with
 |true=>r
 |false=> .own
theorem KM {r:aL} {ds:List Nat} {o:Oper} (h:I9 ds o=true):IB r ds o=r:=by unfold IB;rw[h]
def ld (tt:TT) (r:aL) (ds:List Nat) (all:List Oper):Bool:=
 s7 all 0&&(List.range all.length).all fun i=>(List.range all.length).all fun j=>decide (j<=i)||
  (match all[i]?,all[j]? with|some x,some y=>I9 ds x&&I9 ds y&&ra tt r all x y|_,_=>false)||vp all.length all i j
def vv (P:Program) (tt:TT) (r:aL) (ds:List Nat) (all:List Oper):List Oper->List AV->ag->(List AV->ag->Prop)->Prop
 |[],fr,M,K=>K fr M
 |o::l,fr,M,K=>b8 P tt (some (IB r ds o)) all o fr M fun fr' M'=>vv P tt r ds all l fr' M' K
section
variable {P:Program} {tt:TT} {all:List Oper} {K:List AV->ag->Prop} {r:aL} {ds:List Nat}
def D9 (P:Program) (tt:TT) (r:aL) (ds:List Nat) (all:List Oper) (i:Nat) (fr:List AV) (M:ag) (K:List AV->ag->Prop):Prop:=
 match all[i]? with
 |none=>K fr M
 |some o=>b8 P tt (some (IB r ds o)) all o fr M K
def i5 (P:Program) (tt:TT) (r:aL) (ds:List Nat) (all:List Oper) (K:List AV->ag->Prop):Nat->Array Bool->List AV->ag->Prop
 |0,listed,fr,M=>Region.ready .any all.toArray listed=[]/\K fr M
 |fuel+1,listed,fr,M=>(Region.ready .any all.toArray listed=[]->K fr M)/\
  ∀i∈Region.ready .any all.toArray listed,D9 P tt r ds all i fr M (i5 P tt r ds all K fuel (listed.setIfInBounds i true))
theorem s9 (hT:bn P tt=true) {F:ai} {Q:Exit->Act->World->Prop}:∀(fuel:Nat) (listed:Array Bool) (S:ai) (ρ:aE) (w:World) (a:Act) (fr:List AV) (M:ag),i5 P tt r ds all K fuel listed fr M->aD S F ρ M w->fJ S ρ a fr->
  (∀a' w',dG S F ρ w K a' w'->Q .normal a' w')->wpAny P .any all.toArray Q fuel listed a w
 |0,listed,S,ρ,w,a,fr,M,h,hM,hF,hQ=>⟨h.1,hQ _ _ ⟨fr,M,S,ρ,h.2,ai.le_refl _,aE.le_refl _,hM,hF,eo.refl _⟩⟩
 |fuel+1,listed,S,ρ,w,a,fr,M,h,hM,hF,hQ=>by
  refine⟨fun h0=>hQ _ _ ⟨fr,M,S,ρ,h.1 h0,ai.le_refl _,aE.le_refl _,hM,hF,eo.refl _⟩,fun i hi=>?_⟩
  have hs:=h.2 i hi
  unfold D9 at hs
  unfold wpOp
  obtain⟨_,o,ho,_⟩:=mem_ready.1 hi
  have ho':all[i]? =some o:=by simpa using ho
  rw[ho'] at hs
  rw[ho]
  simp only at hs⊢
  have hk:=o0 (Q:=Q) hT hs hM hF
  have next:∀a' w',dG S F ρ w (i5 P tt r ds all K fuel (listed.setIfInBounds i true)) a' w'->wpAny P .any all.toArray Q fuel (listed.setIfInBounds i true) a' w':=by
   rintro a' w' ⟨fr',M',S',ρ',hk,h1,h2,h3,h4,h5⟩
   exact s9 hT fuel _ S' ρ' w' a' fr' M' hk h3 h4 fun a'' w'' h'=>hQ _ _ (h'.trans h1 h2 h5)
  split
  ·rename_i hw
   rw[if_pos hw] at hk
   exact .inl (Oper.wp_mono next hk)
  ·rename_i hw
   rw[if_neg hw] at hk
   exact next _ _ hk
theorem ta (hB:ld tt r ds all=true) {k j:Nat} {x:Oper} (hx:all[k]? =some x) {listed:Array Bool} (hc:k9 all listed) (hpre:∀m,m<k->listed.getD m true=true) (hk:k∈Region.ready .any all.toArray listed)
  (hj:j∈Region.ready .any all.toArray listed) (hjk:j≠k):∃y,all[j]? =some y/\k<j/\IB r ds x=r/\IB r ds y=r/\ra tt r all x y=true:=by
 obtain⟨hjun,y,hy,hall⟩:=mem_ready.1 hj
 have hy':all[j]? =some y:=by simpa using hy
 have hklt:k<j:=by
  rcases Nat.lt_or_ge k j with h|h
  ·exact h
  ·exfalso
   have:=hpre j (by omega)
   rw[this] at hjun;cases hjun
 have hkun:=(mem_ready.1 hk).1
 have hlen:=(List.getElem?_eq_some_iff.1 hx).1
 have hjlen:=(List.getElem?_eq_some_iff.1 hy').1
 refine⟨y,hy',hklt,?_⟩
 unfold ld at hB
 rw[Bool.and_eq_true] at hB
 have h1:=List.all_eq_true.1 hB.2 k (List.mem_range.2 hlen)
 have h2:=List.all_eq_true.1 h1 j (List.mem_range.2 hjlen)
 rw[hx,hy',Bool.or_eq_true,Bool.or_eq_true] at h2
 rcases h2 with (h2|h2)|h2
 ·simp at h2;omega
 ·rw[Bool.and_eq_true,Bool.and_eq_true] at h2
  exact⟨KM h2.1.1,KM h2.1.2,h2.2⟩
 ·exfalso
  have:=mn hc _ k j h2 (fun o ho e he hb=>by
   rw[hy'] at ho;cases ho;exact hall e he hb)
  have hks:k<listed.size:=by rw[hc.1];exact hlen
  simp[hks] at this hkun
  rw[this] at hkun;cases hkun
theorem yN (hB:ld tt r ds all=true) {k:Nat} {x:Oper} (hx:all[k]? =some x):∀(fuel:Nat) (listed:Array Bool) (fr:List AV) (M:ag),k9 all listed->(∀m,m<k->listed.getD m true=true)->
  k∈Region.ready .any all.toArray listed->b8 P tt (some (IB r ds x)) all x fr M (i5 P tt r ds all K fuel (listed.setIfInBounds k true))->i5 P tt r ds all K (fuel+1) listed fr M:=by
 intro fuel
 induction fuel with
 |zero=>
  intro listed fr M hc hpre hk H
  refine⟨fun h=>(by rw[h] at hk;cases hk),fun j hj=>?_⟩
  by_cases hjk:j=k
  ·subst hjk
   unfold D9
   rw[hx]
   exact H
  ·exfalso
   obtain⟨y,_,_,ex,_,hcomm⟩:=ta hB hx hc hpre hk hj hjk
   rw[ex] at H
   refine s8 (fun ho=>(s6 hcomm ho).1) (dz H fun f M' h=>?_)
   have:=ready_mono hj hjk
   rw[h.1] at this
   cases this
 |succ fuel ih=>
  intro listed fr M hc hpre hk H
  refine⟨fun h=>(by rw[h] at hk;cases hk),fun j hj=>?_⟩
  by_cases hjk:j=k
  ·subst hjk
   unfold D9
   rw[hx]
   exact H
  ·obtain⟨y,hy',hklt,ex,ey,hcomm⟩:=ta hB hx hc hpre hk hj hjk
   unfold D9
   rw[hy']
   have H2:=dz H fun f M' (h:i5 P tt r ds all K (fuel+1) (listed.setIfInBounds k true) f M')=>h.2 j (ready_mono hj hjk)
   have H3:b8 P tt (some (IB r ds x)) all x fr M fun f M'=>b8 P tt (some (IB r ds y)) all y f M' (i5 P tt r ds all K fuel ((listed.setIfInBounds k true).setIfInBounds j true)):=
    dz H2 fun f M' h=>by unfold D9 at h;rw[hy'] at h;exact h
   rw[ex,ey] at H3
   have H4:=vo hcomm fr M _ H3
   show b8 P tt (some (IB r ds y)) all y fr M (i5 P tt r ds all K (fuel+1) (listed.setIfInBounds j true))
   rw[ey]
   refine dz H4 fun f M' h=>?_
   refine ih (listed.setIfInBounds j true) f M' (la hc hj) (fun m hm=>by rw[getD_set_ne true (by omega)];exact hpre m hm) (ready_mono hk (fun e=>hjk e.symm)) ?_
   rw[Array.setIfInBounds_comm _ _ hjk,ex]
   exact h
theorem tc (hB:ld tt r ds all=true):∀(l:List Oper) (k:Nat) (listed:Array Bool) (fr:List AV) (M:ag),all.drop k=l->k+l.length=all.length->k9 all listed->(∀m,m<k->listed.getD m true=true)->(∀m,k<=m->m<all.length->listed.getD m true=false)->
  vv P tt r ds all l fr M K->i5 P tt r ds all K l.length listed fr M
 |[],k,listed,fr,M,hd,hl,hc,h1,h2,h=>by
  refine⟨?_,h⟩
  cases hr:Region.ready .any all.toArray listed with
  |nil=>rfl
  |cons j r=>
   have hj:j∈Region.ready .any all.toArray listed:=by rw[hr];simp
   obtain⟨hu,o,ho,_⟩:=mem_ready.1 hj
   have:j<all.length:=by have:=(Array.getElem?_eq_some_iff.1 ho).1;simpa using this
   simp at hl
   rw[h1 j (by omega)] at hu;cases hu
 |o::r,k,listed,fr,M,hd,hl,hc,h1,h2,h=>by
  simp only[List.length_cons] at hl⊢
  have hk:all[k]? =some o:=by
   have:(all.drop k)[0]? =some o:=by rw[hd];rfl
   rw[List.getElem?_drop] at this
   simpa using this
  have hB':=hB
  unfold ld at hB'
  rw[Bool.and_eq_true] at hB'
  have hready:k∈Region.ready .any all.toArray listed:=by
   rw[mem_ready]
   refine⟨h2 k (Nat.le_refl _) (by omega),o,by simpa using hk,fun e he hb=>?_⟩
   have hlt:=qg all 0 hB'.1 k o hk e he hb
   have:=h1 e.on (by omega)
   have hs:e.on<listed.size:=by rw[hc.1];omega
   simpa[hs] using this
  refine yN hB hk r.length listed fr M hc h1 hready (dz h fun f M' hh=>?_)
  refine tc hB r (k+1) _ f M' (by rw[<-List.drop_drop,hd];rfl) (by omega) (la hc hready) (fun m hm=>?_) (fun m hm hml=>?_) hh
  ·by_cases e:m=k
   ·subst e
    have hs:m<listed.size:=by rw[hc.1];omega
    simp[hs]
   ·rw[getD_set_ne true (Ne.symm e)];exact h1 m (by omega)
  ·rw[getD_set_ne true (by omega)];exact h2 m (by omega) hml
theorem wR (hT:bn P tt=true) (hm:P.follows .mixedOrders=true) (hB:ld tt r ds all=true) {S F:ai} {ρ:aE} {M:ag} {w:World} {a:Act} {fr:List AV} {id:Nat} {Q:Exit->Act->World->Prop}
  (h:vv P tt r ds all all fr M K) (hM:aD S F ρ M w) (hF:fJ S ρ a fr) (hQ:∀a' w',dG S F ρ w K a' w'->Q .normal a' w'):(Code.region id all.toArray true).wp P Q a w:=by
 refine wp_region_any hm ?_
 have hA:=tc (P:=P) (tt:=tt) (K:=K) hB all 0 (Array.replicate all.length false) fr M rfl (by simp) ⟨by simp,fun j o hj hl=>by
   have:=(List.getElem?_eq_some_iff.1 hj).1
   simp[this] at hl⟩ (by simp) (fun m _ hm=>by simp[hm]) h
 have:=s9 hT all.length _ S ρ {w with drawn:=w.drawn+1} a fr M hA (hM.drawn _) hF (Q:=Q) (fun a' w' h'=>hQ a' w' (h'.trans (ai.le_refl _) (aE.le_refl _) (eo.drawn _ _ (Nat.le_succ _))))
 simpa using this
end
def c6 (all:List Oper) (done:List Nat):List Nat:=
 (List.range all.length).filter fun i=>!(done.any (Nat.beq i))&&(match all[i]? with|some o=>o.after.toList.all fun e=>!(Region.binds .any e)||(decide (e.on<all.length)&&done.any (Nat.beq e.on))|none=>false)
def ob:List Nat->(Nat->Prop)->Prop
 |[],_=>True
 |i::l,f=>f i/\ob l f
def An (P:Program) (tt:TT) (d:Option aL) (all:List Oper) (i:Nat) (fr:List AV) (M:ag) (K:List AV->ag->Prop):Prop:=
 match all[i]? with
 |none=>K fr M
 |some o=>b8 P tt d all o fr M K
def br (P:Program) (tt:TT) (d:Option aL) (all:List Oper) (K:List AV->ag->Prop):Nat->List Nat->List AV->ag->Prop
 |0,done,fr,M=>match c6 all done with
  |[]=>K fr M
  |_::_=>False
 |n+1,done,fr,M=>match c6 all done with
  |[]=>K fr M
  |i::l=>ob (i::l) fun j=>An P tt d all j fr M (br P tt d all K n (j::done))
theorem yO {f:Nat->Prop}:∀{l:List Nat},ob l f->∀i∈l,f i
 |_::_,h,i,hi=>by
  rcases List.mem_cons.1 hi with rfl|hi
  ·exact h.1
  ·exact yO h.2 i hi
section
variable {P:Program} {tt:TT} {all:List Oper} {K:List AV->ag->Prop} {fr:List AV} {M:ag}
theorem gr {done:List Nat} {i:Nat}:done.any (Nat.beq i)=true↔i∈done:=by
 rw[List.any_eq_true]
 constructor
 ·rintro⟨x,hx,h⟩;rw[Nat.eq_of_beq_eq_true h];exact hx
 ·intro h;exact⟨i,h,by simp⟩
theorem td {listed:Array Bool} {done:List Nat} (hs:listed.size=all.length) (hl:∀i,i<all.length->(listed.getD i true=true↔i∈done)) {i:Nat}:i∈c6 all done↔i∈Region.ready .any all.toArray listed:=by
 have key:∀e,listed.getD e false=true↔e<all.length/\e∈done:=by
  intro e
  rcases Nat.lt_or_ge e listed.size with h|h
  ·rw[<-hs]
   refine⟨fun h1=>⟨h,(hl e (by omega)).1 (by simpa[h] using h1)⟩,fun h1=>?_⟩
   have:=(hl e (by omega)).2 h1.2
   simpa[h] using this
  ·refine⟨fun h1=>?_,fun h1=>by omega⟩
   simp[Array.getD,Nat.not_lt.2 h] at h1
 rw[mem_ready]
 unfold c6
 rw[List.mem_filter]
 constructor
 ·rintro⟨h1,h2⟩
  have hi:=List.mem_range.1 h1
  rw[Bool.and_eq_true,Bool.not_eq_true',Bool.eq_false_iff] at h2
  obtain⟨h2,h3⟩:=h2
  refine⟨?_,?_⟩
  ·rw[Bool.eq_false_iff]
   exact fun h=>h2 (gr.2 ((hl i hi).1 h))
  ·have ho:all[i]? =some all[i]:=List.getElem?_eq_getElem hi
   rw[ho] at h3
   refine⟨all[i],by simp,fun e he hb=>?_⟩
   have:=List.all_eq_true.1 h3 e (by simpa using he)
   rw[hb,Bool.not_true,Bool.false_or,Bool.and_eq_true] at this
   exact(key e.on).2 ⟨by simpa using this.1,gr.1 this.2⟩
 ·rintro⟨hu,o,ho,ha⟩
  have ho':all[i]? =some o:=by simpa using ho
  have hi:=(List.getElem?_eq_some_iff.1 ho').1
  refine⟨List.mem_range.2 hi,?_⟩
  rw[ho',Bool.and_eq_true]
  constructor
  ·rw[Bool.not_eq_true',Bool.eq_false_iff]
   intro hd
   have:=(hl i hi).2 (gr.1 hd)
   rw[this] at hu;cases hu
  ·dsimp only
   rw[List.all_eq_true]
   intro e he
   cases hb:Region.binds .any e with
   |false=>rfl
   |true=>
    have h1:=(key e.on).1 (ha e (by simpa using he) hb)
    rw[Bool.not_true,Bool.false_or,Bool.and_eq_true]
    exact⟨by simpa using h1.1,gr.2 h1.2⟩
theorem A0 {listed:Array Bool} {done:List Nat} (hs:listed.size=all.length) (hl:∀i,i<all.length->(listed.getD i true=true↔i∈done)) {j:Nat} (hj:j<all.length):
  ∀i,i<all.length->((listed.setIfInBounds j true).getD i true=true↔i∈j::done):=by
 intro i hi
 by_cases e:i=j
 ·subst e
  have:i<listed.size:=by omega
  simp[this]
 ·rw[getD_set_ne true (Ne.symm e),hl i hi]
  simp[e]
theorem qh {listed:Array Bool} {done:List Nat} (hs:listed.size=all.length) (hl:∀i,i<all.length->(listed.getD i true=true↔i∈done)):c6 all done=[]↔Region.ready .any all.toArray listed=[]:=by
 rw[List.eq_nil_iff_forall_not_mem,List.eq_nil_iff_forall_not_mem]
 exact⟨fun h i hi=>h i ((td hs hl).2 hi),fun h i hi=>h i ((td hs hl).1 hi)⟩
theorem yP {d:Option aL} (hT:bn P tt=true) {F:ai} {Q:Exit->Act->World->Prop}:∀(n:Nat) (done:List Nat) (listed:Array Bool) (S:ai) (ρ:aE) (w:World) (a:Act) (fr:List AV) (M:ag),listed.size=all.length->(∀i,i<all.length->(listed.getD i true=true↔i∈done))->
  br P tt d all K n done fr M->aD S F ρ M w->fJ S ρ a fr->(∀a' w',dG S F ρ w K a' w'->Q .normal a' w')->wpAny P .any all.toArray Q n listed a w
 |0,done,listed,S,ρ,w,a,fr,M,hs,hl,h,hM,hF,hQ=>by
  unfold br at h
  split at h
  ·rename_i h0;exact⟨(qh hs hl).1 h0,hQ _ _ ⟨fr,M,S,ρ,h,ai.le_refl _,aE.le_refl _,hM,hF,eo.refl _⟩⟩
  ·exact h.elim
 |n+1,done,listed,S,ρ,w,a,fr,M,hs,hl,h,hM,hF,hQ=>by
  unfold br at h
  split at h
  ·rename_i h0
   have:=(qh hs hl).1 h0
   exact⟨fun _=>hQ _ _ ⟨fr,M,S,ρ,h,ai.le_refl _,aE.le_refl _,hM,hF,eo.refl _⟩,fun i hi=>by rw[this] at hi;cases hi⟩
  ·rename_i i l h0
   rw[<-h0] at h
   refine⟨fun h1=>?_,fun j hj=>?_⟩
   ·rw[(qh hs hl).2 h1] at h0;cases h0
   have hjr:=(td hs hl).2 hj
   have h2:=yO h j hjr
   have hjl:j<all.length:=by
    unfold c6 at hjr
    exact List.mem_range.1 (List.mem_filter.1 hjr).1
   unfold An at h2
   unfold wpOp
   obtain⟨_,o,ho,_⟩:=mem_ready.1 hj
   have ho':all[j]? =some o:=by simpa using ho
   rw[ho'] at h2
   rw[ho]
   simp only at h2⊢
   have hk:=o0 (Q:=Q) hT h2 hM hF
   have next:∀a' w',dG S F ρ w (br P tt d all K n (j::done)) a' w'->wpAny P .any all.toArray Q n (listed.setIfInBounds j true) a' w':=by
    rintro a' w' ⟨fr',M',S',ρ',hk,h1,h2,h3,h4,h5⟩
    exact yP hT n (j::done) _ S' ρ' w' a' fr' M' (by simpa using hs) (A0 hs hl hjl) hk h3 h4 fun a'' w'' h'=>hQ _ _ (h'.trans h1 h2 h5)
   split
   ·rename_i hw
    rw[if_pos hw] at hk
    exact .inl (Oper.wp_mono next hk)
   ·rename_i hw
    rw[if_neg hw] at hk
    exact next _ _ hk
theorem wS {d:Option aL} (hT:bn P tt=true) (hm:P.follows .mixedOrders=true) {S F:ai} {ρ:aE} {w:World} {a:Act} {id:Nat} {Q:Exit->Act->World->Prop}
  (h:br P tt d all K all.length [] fr M) (hM:aD S F ρ M w) (hF:fJ S ρ a fr) (hQ:∀a' w',dG S F ρ w K a' w'->Q .normal a' w'):(Code.region id all.toArray true).wp P Q a w:=by
 refine wp_region_any hm ?_
 have:=yP hT all.length [] (Array.replicate all.length false) S ρ {w with drawn:=w.drawn+1} a fr M (by simp) (fun i hi=>by simp[hi]) h (hM.drawn _) hF (Q:=Q) (fun a' w' h'=>hQ a' w' (h'.trans (ai.le_refl _) (aE.le_refl _) (eo.drawn _ _ (Nat.le_succ _))))
 simpa using this
end
end
end Go.Proofs.YtekmminpfhacpaaGreatDoor
