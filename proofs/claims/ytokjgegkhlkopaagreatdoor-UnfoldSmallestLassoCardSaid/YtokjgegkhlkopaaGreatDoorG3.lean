import Derived.Test.YtokjgegkhlkopaaGreatDoorG2
set_option linter.unusedVariables false
set_option linter.unusedSimpArgs false
namespace Go.Proofs.YtokjgegkhlkopaaGreatDoor
section
def ld (S F:ag) (ρ:aw) (w:World) (R:AV->ai->Prop) (e:Ending) (w':World):Prop:=
 ∃v u M' S' ρ',e= .returned v/\R u M'/\S.le S'/\aw.le ρ ρ'/\ax S' F ρ' M' w'/\RV S' ρ' v u/\ce w w'
def lf (P:Program) (f:FuncId):Prop:=∃fn,P.funcs[f]? =some fn/\(fn.name== "runtime.NumGoroutine")=false/\fn.body.isNone=false
structure an (P:Program) (f:FuncId) (args:List AV) (M:ai) (R:AV->ai->Prop):Prop where
 out:lf P f/\∀S F ρ vs w,ax S F ρ M w->be S ρ vs args->Calls P f vs.toArray w (ld S F ρ w R)
theorem bT {P:Program} {f:FuncId} {args:List AV} {M:ai} {R:AV->ai->Prop}:an P f args M R↔(lf P f/\∀S F ρ vs w,ax S F ρ M w->be S ρ vs args->Calls P f vs.toArray w (ld S F ρ w R)):=⟨fun h=>h.out,fun h=>⟨h⟩⟩
def nn (S F:ag) (w:World) (R:AV->Prop) (e:Ending) (w':World):Prop:=
 ∃v u S',e= .returned v/\R u/\S.le S'/\S'.inW w'/\F.inW w'/\(∀b,S' b=none\/F b=none)/\RP S' v u/\ce w w'
structure ae (P:Program) (f:FuncId) (args:List AV) (R:AV->Prop):Prop where
 out:lf P f/\∀S F vs w,Gl S->S.inW w->F.inW w->(∀b,S b=none\/F b=none)->iY S vs args->Calls P f vs.toArray w (nn S F w R)
theorem eM {P:Program} {f:FuncId} {args:List AV} {R:AV->Prop}:ae P f args R↔(lf P f/\∀S F vs w,Gl S->S.inW w->F.inW w->(∀b,S b=none\/F b=none)->iY S vs args->Calls P f vs.toArray w (nn S F w R)):=⟨fun h=>h.out,fun h=>⟨h⟩⟩
def bX:Nat->AV->Bool
 |0,_=>false
 |n+1, .agg cs=>cs.all (bX n)
 |n+1, .tup cs=>cs.all (bX n)
 |n+1, .fn _ cs=>cs.all (bX n)
 |_+1, .ptr _ _=>false
 |_+1, .row _ _ _=>false
 |_+1, .rel _ _ _=>false
 |_+1, .part _ _ _ _=>false
 |_+1, .mp _=>false
 |_+1,_=>true
section
variable {S F:ag} {ρ:aw} {M:ai} {w:World} {P:Program}
theorem jI:∀(n:Nat) {u:AV} {v:Value},bX n u=true->RV S ρ v u->RP S v u:=by
 intro n
 induction n with
 |zero=>intro u v h;simp[bX] at h
 |succ n ih=>
  intro u v h hv
  have hl:∀{cs:List AV} {vs:Array Value},cs.all (bX n)=true->be S ρ vs.toList cs->vs.size=cs.length/\∃vals:Nat->Value,(∀i,i<vs.size->vs[i]? =some (vals i))/\∀(j:Nat) u,cs[j]? =some u->RP S (vals j) u:=by
   intro cs vs ha hr
   have hs:=hr.1
   simp only[Array.length_toList] at hs
   refine⟨hs,fun i=>vs.getD i undef,fun i hi=>by simp[hi],fun j x hx=>?_⟩
   obtain⟨y,hy,hyr⟩:=hr.2 j x hx
   have:vs.getD j undef=y:=by
    have hy':vs[j]? =some y:=by simpa using hy
    simp[hy']
   show RP S (vs.getD j undef) x
   rw[this]
   exact ih (List.all_eq_true.1 ha x (List.mem_of_getElem? hx)) hyr
  cases u with
  |agg cs=>
   obtain⟨vs,rfl,hr⟩:=hv.agg_inv
   obtain⟨hs,vals,he,hvv⟩:=hl h hr
   exact .agg cs vs hs vals he hvv
  |tup cs=>
   obtain⟨vs,rfl,hr⟩:=hv.tup_inv
   obtain⟨hs,vals,he,hvv⟩:=hl h hr
   exact .tup cs vs hs vals he hvv
  |fn f cs=>
   obtain⟨vs,rfl,hr⟩:=hv.fn_inv
   obtain⟨hs,vals,he,hvv⟩:=hl h hr
   exact .fn f cs vs hs vals he hvv
  |ptr _ _=>simp[bX] at h
  |row _ _ _=>simp[bX] at h
  |rel _ _ _=>simp[bX] at h
  |part _ _ _ _=>simp[bX] at h
  |mp _=>simp[bX] at h
  |top=>exact .top _
  |int k n=>rw[hv.int_inv];exact .int _ _
  |bool b=>rw[hv.bool_inv];exact .bool _
  |str s=>rw[hv.str_inv];exact .str _
  |nilsl=>rw[hv.nilsl_inv];exact .nilsl
  |val x=>rw[hv.val_inv];exact .val _
  |sl d enc l=>exact hv.sl_inv
  |slc d enc l=>exact hv.slc_inv
  |pd c=>exact hv.pd_inv
theorem lY {n:Nat} {us:List AV} {vs:List Value} (h:us.all (bX n)=true) (hv:be S ρ vs us):iY S vs us:=
 ⟨hv.1,fun i u hu=>let ⟨v,e,hr⟩:=hv.2 i u hu;⟨v,e,jI n (List.all_eq_true.1 h u (List.mem_of_getElem? hu)) hr⟩⟩
noncomputable def fK (F:ag) (ρ:aw) (M:ai) (w:World) (own:Nat->Prop):ag:=fun k=>
 open Classical in if(∃ℓ B b,M ℓ=some B/\ρ ℓ=some b/\B.live b/\b.blk=k/\¬own ℓ) then w.heap[k]? else F k
theorem mM {own:Nat->Prop} {ℓ:Nat} {B:aX} {b:dU} (h1:M ℓ=some B) (h2:ρ ℓ=some b) (h3:B.live b) (h4:¬own ℓ):fK F ρ M w own b.blk=w.heap[b.blk]?:=by
 unfold fK;rw[if_pos ⟨ℓ,B,b,h1,h2,h3,rfl,h4⟩]
theorem lg {own:Nat->Prop} (hM:ax S F ρ M w):ag.le F (fK F ρ M w own):=by
 intro k o hk
 unfold fK
 split
 ·exact hM.fw k o hk
 ·exact hk
theorem oH {own:Nat->Prop} (hM:ax S F ρ M w):(fK F ρ M w own).inW w:=by
 intro k o hk
 unfold fK at hk
 split at hk
 ·exact hk
 ·exact hM.fw k o hk
theorem qG {own:Nat->Prop} (hM:ax S F ρ M w) (k:Nat):S k=none\/fK F ρ M w own k=none:=by
 unfold fK
 split
 ·rename_i h
  obtain⟨ℓ,B,b,h1,h2,h3,rfl,_⟩:=h
  obtain⟨b',hb',hr⟩:=hM.blk _ _ h1
  rw[h2] at hb';cases hb'
  exact .inl (hr.off h3).1
 ·exact hM.sf k
theorem ax.behind {S':ag} {w':World} (hM:ax S F ρ M w) (hle:S.le S') (hs:S'.inW w') (hf:(fK F ρ M w (fun _=>False)).inW w') (hd:∀b,S' b=none\/fK F ρ M w (fun _=>False) b=none):ax S' F ρ M w':=by
 refine⟨hs,fun k o hk=>hf k o (lg hM k o hk),fun k=>?_,hM.dom,fun ℓ B hB=>?_,hM.inj,hM.gl.mono hle⟩
 ·rcases hd k with h|h
  ·exact .inl h
  ·right
   cases hk:F k with
   |none=>rfl
   |some o=>rw[lg hM k o hk] at h;cases h
 ·obtain⟨b,hb,hr⟩:=hM.blk _ _ hB
  refine⟨b,hb,hr.keep hle (aw.le_refl _) fun hl=>?_⟩
  have hk:=mM (F:=F) (w:=w) (own:=fun _=>False) hB hb hl (fun h=>h)
  have hlt:=hr.lt hl
  obtain⟨o,ho⟩:∃o,w.heap[b.blk]? =some o:=⟨_,Array.getElem?_eq_getElem hlt⟩
  refine⟨by rw[hf b.blk o (hk.trans ho),ho],?_⟩
  rw[(hr.off hl).1]
  rcases hd b.blk with h|h
  ·exact h
  ·rw[hk,ho] at h;cases h
theorem an.of_pure {f:FuncId} {args:List AV} {R:AV->Prop} {K:AV->ai->Prop} {n:Nat} (h:ae P f args R) (hp:args.all (bX n)=true) (hk:∀u,R u->K u M):an P f args M K:=by
 rw[bT]
 rw[eM] at h
 refine⟨h.1,?_⟩
 intro S F ρ vs w hM hv
 refine(h.2 S (fK F ρ M w (fun _=>False)) vs w hM.gl hM.sw (oH hM) (qG hM) (lY hp hv)).mono ?_
 rintro e w' ⟨v,u,S',rfl,hR,hle,hs,hf,hd,hr,hw⟩
 exact⟨v,u,M,S',ρ,rfl,hk u hR,hle,aw.le_refl _,hM.behind hle hs hf hd, .p hr,hw⟩
theorem an.mono {f:FuncId} {args:List AV} {R R':AV->ai->Prop} (h:an P f args M R) (hr:∀u M,R u M->R' u M):an P f args M R':=by
 simp only[bT] at*
 refine⟨h.1,?_⟩
 intro S F ρ vs w hM hv
 exact(h.2 S F ρ vs w hM hv).mono fun e w' ⟨v,u,M',S',ρ',a,b,c⟩=>⟨v,u,M',S',ρ',a,hr _ _ b,c⟩
theorem ae.mono {f:FuncId} {args:List AV} {R R':AV->Prop} (h:ae P f args R) (hr:∀u,R u->R' u):ae P f args R':=by
 simp only[eM] at*
 refine⟨h.1,?_⟩
 intro S F vs w h0 h1 h2 h3 hv
 exact(h.2 S F vs w h0 h1 h2 h3 hv).mono fun e w' ⟨v,u,S',a,b,c⟩=>⟨v,u,S',a,hr _ b,c⟩
theorem an.weaken {f:FuncId} {args args':List AV} {R:AV->ai->Prop} (h:an P f args' M R)
  (hw:∀S F ρ vs w,ax S F ρ M w->be S ρ vs args->be S ρ vs args'):an P f args M R:=by
 simp only[bT] at*
 refine⟨h.1,?_⟩
 intro S F ρ vs w hM hv
 exact h.2 S F ρ vs w hM (hw S F ρ vs w hM hv)
theorem an.leak {f:FuncId} {args:List AV} {R:AV->ai->Prop} {ℓ:Nat} {t:TypeId} {α:Type} {d:α} {enc:α->List AV} {l:List α} (hl:M ℓ=some (.row t d enc l))
  (h:an P f args (M.set ℓ (.gone d enc l)) R):an P f args M R:=by
 simp only[bT] at*
 refine⟨h.1,?_⟩
 intro S F ρ vs w hM hv
 obtain⟨S',b,hle,hb,hM',_⟩:=hM.leak hl
 refine(h.2 S' F ρ vs w hM' (hv.mono hle (aw.le_refl _))).mono ?_
 rintro e w' ⟨v,u,M',S'',ρ',a,b,c,r⟩
 exact⟨v,u,M',S'',ρ',a,b,ag.le_trans hle c,r⟩
end
end
section
inductive LM
 |old (ℓ:Nat)
 |nil (sz:Nat)
abbrev b8:=List (Nat×LM)
def aA:b8->Nat->Option LM
 |[],_=>none
 |(k,x)::r,ℓ=>match Nat.beq k ℓ with|true=>some x|false=>aA r ℓ
def ai.ofL:List (Nat×aX)->ai
 |[],_=>Option.none
 |(k,B)::r,ℓ=>match Nat.beq k ℓ with|true=>some B|false=>ai.ofL r ℓ
mutual
def mC (lm:b8):Nat->AV->AV->Prop
 |0,_,_=>False
 |n+1,u,v=>match v with
  | .top=>True
  | .ptr ℓ' o'=>match u with
   | .ptr ℓ o=>match aA lm ℓ' with
    |some (.old m)=>match Nat.beq m ℓ with|true=>o=o'|false=>False
    |_=>False
   |_=>False
  | .row ℓ' n' sz'=>match u with
   | .row ℓ n sz=>match aA lm ℓ' with
    |some (.old m)=>match Nat.beq m ℓ,Nat.beq sz sz' with
     |true,true=>n=n'
     |_,_=>False
    |_=>False
   | .nilsl=>match aA lm ℓ' with
    |some (.nil sz)=>match Nat.beq sz sz' with
     |true=>0=n'
     |false=>False
    |_=>False
   |_=>False
  | .rel ℓ' i' o'=>match u with
   | .rel ℓ i o=>match aA lm ℓ' with
    |some (.old m)=>match Nat.beq m ℓ with|true=>i=i'/\o=o'|false=>False
    |_=>False
   |_=>False
  | .part ℓ' lo' n' sz'=>match u with
   | .part ℓ lo n sz=>match aA lm ℓ' with
    |some (.old m)=>match Nat.beq m ℓ with|true=>lo=lo'/\n=n'/\sz=sz'|false=>False
    |_=>False
   | .row ℓ n sz=>match aA lm ℓ' with
    |some (.old m)=>match Nat.beq m ℓ with|true=>0=lo'/\n=n'/\sz=sz'|false=>False
    |_=>False
   |_=>False
  | .mp ℓ'=>match u with
   | .mp ℓ=>match aA lm ℓ' with
    |some (.old m)=>match Nat.beq m ℓ with|true=>True|false=>False
    |_=>False
   |_=>False
  | .fn f' cs'=>match u with
   | .fn f cs=>match Nat.beq f f' with|true=>ge lm n cs cs'|false=>False
   |_=>False
  | .agg cs'=>match u with
   | .agg cs=>ge lm n cs cs'
   |_=>False
  | .tup cs'=>match u with
   | .tup cs=>ge lm n cs cs'
   |_=>False
  | .int k' m'=>match u with
   | .int k m=>match Nat.beq (kn k) (kn k') with|true=>m=m'|false=>False
   |_=>False
  | .bool b'=>match u with
   | .bool b=>b=b'
   |_=>False
  | .sl d enc l=>match u with
   | .nilsl=>l=[]
   |u=>u= .sl d enc l
  |v=>u=v
def ge (lm:b8):Nat->List AV->List AV->Prop
 |0,_,_=>False
 |n+1,us,vs=>match us,vs with
  |[],[]=>True
  |u::us,v::vs=>match v with
   | .top=>ge lm n us vs
   |v=>mC lm n u v/\ge lm n us vs
  |_,_=>False
end
def ie (lm:b8) (n:Nat):Option aX->aX->Prop
 |some _, .dead=>True
 |none, .dead=>False
 |some (.box t cs), .box t' cs'=>match Nat.beq t t' with|true=>ge lm n cs cs'|false=>False
 |some (.row t d enc l), .row t' d' enc' l'=>aX.row t d enc l=aX.row t' d' enc' l'
 |some (.gone d enc l), .gone d' enc' l'=>aX.gone d enc l=aX.gone d' enc' l'
 |some (.iter s p), .iter s' p'=>s=s'/\p=p'
 |some (.map ek ev l), .map ek' ev' l'=>aX.map ek ev l=aX.map ek' ev' l'
 |some (.obj o), .obj o'=>o=o'
 |_,_=>False
def dK (lm:b8) (n:Nat) (M:ai):List (Nat×aX)->Prop
 |[]=>True
 |(ℓ',B')::r=>(match aA lm ℓ' with
  |some (.old ℓ)=>ie lm n (M ℓ) B'
  |some (.nil _)=>match B' with
   | .row _ _ _ l=>l=[]
   |_=>False
  |none=>False)/\dK lm n M r
def gX (lm:b8) (L:List (Nat×aX)):Bool:=lm.all fun p=>(ai.ofL L p.1).isSome
def np:b8->Bool
 |[]=>true
 |(_, .old ℓ)::r=>r.all (fun p=>match p.2 with| .old m=>!(Nat.beq m ℓ)| .nil _=>true)&&np r
 |(_, .nil _)::r=>np r
def gx (L:List (Nat×aX)) (k:Nat):Bool:=match ai.ofL L k with
 |some .dead=>false
 |_=>true
def f5 (L:List (Nat×aX)) (lm:b8):Bool:=np (lm.filter fun p=>gx L p.1)
def qH (lm:b8) (D:List Nat):Bool:=D.all fun d=>match aA lm d with|some (.old m)=>Nat.beq m d|_=>false
def An:b8->Bool
 |[]=>true
 |(k,_)::r=>r.all (fun p=>!(Nat.beq p.1 k))&&An r
def bK (lm:b8) (ρ:aw):aw:=fun ℓ'=>match aA lm ℓ' with
 |some (.old ℓ)=>ρ ℓ
 |some (.nil sz)=>some ⟨0,0,0,sz,true⟩
 |none=>none
section
variable {S F:ag} {ρ:aw} {M:ai} {w:World} {lm:b8}
theorem jv:∀(n:Nat),(∀(u v:AV) (x:Value),mC lm n u v->RV S ρ x u->RV S (bK lm ρ) x v)/\(∀(us vs:List AV) (xs:List Value),ge lm n us vs->be S ρ xs us->be S (bK lm ρ) xs vs):=by
 intro n
 induction n with
 |zero=>exact⟨fun u v x h=>by simp[mC] at h,fun us vs xs h=>by simp[ge] at h⟩
 |succ n ih=>
  refine⟨fun u v x h hx=>?_,fun us vs xs h hx=>?_⟩
  ·have pers:∀{v:AV},u=v->(∀{y},RV S ρ y v->RP S y v)->RV S (bK lm ρ) x v:=fun e hp=>by subst e;exact .p (hp hx)
   cases v with
   |top=>exact .p (.top _)
   |ptr ℓ' o'=>
    simp only[mC] at h
    split at h
    ·split at h
     ·rename_i ℓ o m hm
      split at h
      ·rename_i hb
       have:=Nat.eq_of_beq_eq_true hb
       subst this;subst h
       obtain⟨b,hb,rfl⟩:=hx.ptr_inv
       exact .ptr _ _ b (by unfold bK;rw[hm];exact hb)
      ·exact h.elim
     ·exact h.elim
    ·exact h.elim
   |row ℓ' n' sz'=>
    simp only[mC] at h
    split at h
    ·split at h
     ·rename_i ℓ k sz m hm
      split at h
      ·rename_i hb hs
       have:=Nat.eq_of_beq_eq_true hb
       subst this
       have:=Nat.eq_of_beq_eq_true hs
       subst this;subst h
       obtain⟨b,hb,h1,h2,h3,rfl⟩:=hx.row_inv
       exact .row _ _ _ b (by unfold bK;rw[hm];exact hb) h1 h2 h3
      ·exact h.elim
     ·exact h.elim
    ·split at h
     ·rename_i sz hm
      split at h
      ·rename_i hs
       have:=Nat.eq_of_beq_eq_true hs
       subst this;subst h
       rw[hx.nilsl_inv]
       have:=RV.row (S:=S) (ρ:=bK lm ρ) ℓ' 0 sz ⟨0,0,0,sz,true⟩ (by unfold bK;rw[hm]) rfl rfl (fun _=>rfl)
       exact this
      ·exact h.elim
     ·exact h.elim
    ·exact h.elim
   |rel ℓ' i' o'=>
    simp only[mC] at h
    split at h
    ·split at h
     ·rename_i ℓ i o m hm
      split at h
      ·rename_i hb
       have:=Nat.eq_of_beq_eq_true hb
       subst this
       obtain⟨rfl,rfl⟩:=h
       obtain⟨b,hb,h1,rfl⟩:=hx.rel_inv
       exact .rel _ _ _ b (by unfold bK;rw[hm];exact hb) h1
      ·exact h.elim
     ·exact h.elim
    ·exact h.elim
   |part ℓ' lo' n' sz'=>
    simp only[mC] at h
    split at h
    ·split at h
     ·rename_i ℓ lo n sz m hm
      split at h
      ·rename_i hb
       have:=Nat.eq_of_beq_eq_true hb
       subst this
       obtain⟨rfl,rfl,rfl⟩:=h
       obtain⟨b,a,c,hb,h1,h2,h3,h4,rfl⟩:=hx.part_inv
       exact .part _ _ _ _ b a c (by unfold bK;rw[hm];exact hb) h1 h2 h3 h4
      ·exact h.elim
     ·exact h.elim
    ·split at h
     ·rename_i ℓ n sz m hm
      split at h
      ·rename_i hb
       have:=Nat.eq_of_beq_eq_true hb
       subst this
       obtain⟨rfl,rfl,rfl⟩:=h
       obtain⟨b,hb,rfl,h2,h3,rfl⟩:=hx.row_inv
       have hn:0<b.len->b.nil=false:=fun hp=>by
        cases hh:b.nil with
        |false=>rfl
        |true=>have:=h3 hh;omega
       exact .part _ _ _ _ b _ _ (by unfold bK;rw[hm];exact hb) h2 (by omega) (fun hp=>⟨hn hp,by rw[hn hp,Nat.zero_mul];rfl⟩) (fun _=>Nat.zero_add _)
      ·exact h.elim
     ·exact h.elim
    ·exact h.elim
   |mp ℓ'=>
    simp only[mC] at h
    split at h
    ·split at h
     ·rename_i ℓ m hm
      split at h
      ·rename_i hb
       have:=Nat.eq_of_beq_eq_true hb
       subst this
       obtain⟨b,hb,rfl⟩:=hx.mp_inv
       exact .mp _ b (by unfold bK;rw[hm];exact hb)
      ·exact h.elim
     ·exact h.elim
    ·exact h.elim
   |fn f' cs'=>
    simp only[mC] at h
    split at h
    ·rename_i f cs
     split at h
     ·rename_i hf
      have:=Nat.eq_of_beq_eq_true hf
      subst this
      obtain⟨vs,rfl,hv⟩:=hx.fn_inv
      have:=RV.fn_mk f (ih.2 cs cs' vs.toList h hv)
      simpa using this
     ·exact h.elim
    ·exact h.elim
   |agg cs'=>
    simp only[mC] at h
    split at h
    ·rename_i cs
     obtain⟨vs,rfl,hv⟩:=hx.agg_inv
     have:=RV.agg_mk (ih.2 cs cs' vs.toList h hv)
     simpa using this
    ·exact h.elim
   |tup cs'=>
    simp only[mC] at h
    split at h
    ·rename_i cs
     obtain⟨vs,rfl,hv⟩:=hx.tup_inv
     have:=RV.tup_mk (ih.2 cs cs' vs.toList h hv)
     simpa using this
    ·exact h.elim
   |int k' m'=>
    simp only[mC] at h
    split at h
    ·split at h
     ·rename_i hk
      have:=Du hk
      subst this;subst h
      rw[hx.int_inv]
      exact .p (.int _ _)
     ·exact h.elim
    ·exact h.elim
   |bool b'=>
    simp only[mC] at h
    split at h
    ·subst h
     rw[hx.bool_inv]
     exact .p (.bool _)
    ·exact h.elim
   |sl d enc l=>
    simp only[mC] at h
    split at h
    ·subst h
     rw[hx.nilsl_inv]
     exact .p (.sl d enc [] none 0 0 (fun _ _=>undef) (by simp) (by simp) (by simp) (by simp) (by simp) (by simp))
    ·exact pers h fun hy=>hy.sl_inv
   |str s=>simp only[mC] at h;exact pers h fun hy=>by rw[hy.str_inv];exact .str _
   |nilsl=>simp only[mC] at h;exact pers h fun hy=>by rw[hy.nilsl_inv];exact .nilsl
   |val y=>simp only[mC] at h;exact pers h fun hy=>by rw[hy.val_inv];exact .val _
   |slc d enc l=>simp only[mC] at h;exact pers h fun hy=>hy.slc_inv
   |pd c=>simp only[mC] at h;exact pers h fun hy=>hy.pd_inv
  ·simp only[ge] at h
   split at h
   ·rw[hx.nil_inv];exact be.nil _ _
   ·rename_i u us v vs
    obtain⟨y,ys,rfl,hy,hys⟩:=hx.cons_inv
    split at h
    ·exact be.cons (.p (.top _)) (ih.2 us vs ys h hys)
    ·exact be.cons (ih.1 u v y h.1 hy) (ih.2 us vs ys h.2 hys)
   ·exact h.elim
theorem eO:∀{L:List (Nat×aX)} {ℓ:Nat} {B:aX},ai.ofL L ℓ=some B->(ℓ,B)∈L
 |[],_,_,h=>by simp[ai.ofL] at h
 |(k,C)::r,ℓ,B,h=>by
  simp only[ai.ofL] at h
  split at h
  ·rename_i hk
   have:=Nat.eq_of_beq_eq_true hk
   subst this
   cases h;exact List.mem_cons_self
  ·exact List.mem_cons_of_mem _ (eO h)
theorem nq {n:Nat}:∀{L:List (Nat×aX)},dK lm n M L->∀ℓ' B',(ℓ',B')∈L->(match aA lm ℓ' with
  |some (.old ℓ)=>ie lm n (M ℓ) B'
  |some (.nil _)=>match B' with
   | .row _ _ _ l=>l=[]
   |_=>False
  |none=>False)
 |[],_,_,_,h=>by cases h
 |(k,C)::r,h,ℓ',B',hm=>by
  rcases List.mem_cons.1 hm with e|hm
  ·injection e with e1 e2;subst e1;subst e2;exact h.1
  ·exact nq h.2 ℓ' B' hm
theorem cN:∀{lm:b8} {ℓ:Nat} {x:LM},aA lm ℓ=some x->(ℓ,x)∈lm
 |[],_,_,h=>by simp[aA] at h
 |(k,y)::r,ℓ,x,h=>by
  simp only[aA] at h
  split at h
  ·rename_i hk
   have:=Nat.eq_of_beq_eq_true hk
   subst this
   cases h;exact List.mem_cons_self
  ·exact List.mem_cons_of_mem _ (cN h)
theorem qI:∀{lm:b8},np lm=true->∀{a b ℓ:Nat},aA lm a=some (.old ℓ)->aA lm b=some (.old ℓ)->a=b
 |[],_,_,_,_,h,_=>by simp[aA] at h
 |(k,x)::r,ho,a,b,ℓ,ha,hb=>by
  have hr:np r=true:=by
   cases x with
   |old m=>simp only[np,Bool.and_eq_true] at ho;exact ho.2
   |nil _=>simpa only[np] using ho
  have far:∀{c:Nat},x= .old ℓ->aA r c=some (.old ℓ)->False:=by
   intro c hx hc
   subst hx
   simp only[np,Bool.and_eq_true] at ho
   have:=List.all_eq_true.1 ho.1 _ (cN hc)
   simp at this
  simp only[aA] at ha hb
  split at ha
  ·rename_i hka
   split at hb
   ·rename_i hkb
    rw[<-Nat.eq_of_beq_eq_true hka,<-Nat.eq_of_beq_eq_true hkb]
   ·cases ha;exact(far rfl hb).elim
  ·split at hb
   ·cases hb;exact(far rfl ha).elim
   ·exact qI hr ha hb
theorem jw {L:List (Nat×aX)} {a:Nat} (ha:gx L a=true):∀{lm:b8} {x:LM},aA lm a=some x->aA (lm.filter fun p=>gx L p.1) a=some x
 |[],_,h=>by simp[aA] at h
 |(k,y)::r,x,h=>by
  simp only[aA] at h
  split at h
  ·rename_i hk
   have:=Nat.eq_of_beq_eq_true hk
   subst this
   cases h
   rw[List.filter_cons_of_pos (by exact ha)]
   simp[aA]
  ·rename_i hk
   have ih:=jw ha h
   by_cases hp:gx L k=true
   ·rw[List.filter_cons_of_pos (by exact hp)]
    simp only[aA,hk]
    exact ih
   ·rw[List.filter_cons_of_neg (by exact hp)]
    exact ih
theorem nt {L:List (Nat×aX)} {k:Nat} {B:aX} {b:dU} (h:ai.ofL L k=some B) (hl:B.live b):gx L k=true:=by
 unfold gx
 rw[h]
 cases B<;>first|rfl|exact hl.elim
theorem ax.relabel (hM:ax S F ρ M w) {L:List (Nat×aX)} {n:Nat} (hm:dK lm n M L) (hk:gX lm L=true) (ho:f5 L lm=true):ax S F (bK lm ρ) (ai.ofL L) w:=by
 have live:∀ℓ' B',ai.ofL L ℓ'=some B'->∀b,bK lm ρ ℓ'=some b->B'.live b->∃ℓ B,aA lm ℓ'=some (.old ℓ)/\M ℓ=some B/\ρ ℓ=some b/\B.live b:=by
  intro ℓ' B' hB' b hb hl
  have h:=nq hm ℓ' B' (eO hB')
  unfold bK at hb
  split at h
  ·rename_i ℓ hf
   rw[hf] at hb
   simp only at hb
   unfold ie at h
   split at h
   ·exact hl.elim
   ·exact h.elim
   ·rename_i t cs t' cs' hML
    exact⟨ℓ,_,hf,hML,hb,trivial⟩
   ·rename_i t α d enc l t' α' d' enc' l' hML
    refine⟨ℓ,_,hf,hML,hb,?_⟩
    rw[h];exact hl
   ·exact hl.elim
   ·rename_i s p s' p' hML
    exact⟨ℓ,_,hf,hML,hb,trivial⟩
   ·rename_i hML
    exact⟨ℓ,_,hf,hML,hb,trivial⟩
   ·rename_i hML
    exact⟨ℓ,_,hf,hML,hb,trivial⟩
   ·exact h.elim
  ·rename_i sz hf
   rw[hf] at hb
   simp only[Option.some.injEq] at hb
   subst hb
   split at h
   ·simp[aX.live] at hl
   ·exact h.elim
  ·exact h.elim
 refine⟨hM.sw,hM.fw,hM.sf,fun ℓ' b hb=>?_,fun ℓ' B' hB'=>?_,fun x y B C b c h1 h2 h3 h4 h5 h6 hne=>?_,hM.gl⟩
 ·cases hf:aA lm ℓ' with
  |none=>unfold bK at hb;rw[hf] at hb;cases hb
  |some x=>
   have:=List.all_eq_true.1 hk _ (cN hf)
   intro h
   simp only at this
   rw[h] at this;cases this
 ·have h:=nq hm ℓ' B' (eO hB')
  split at h
  ·rename_i ℓ hf
   have he:bK lm ρ ℓ'=ρ ℓ:=by unfold bK;rw[hf]
   unfold ie at h
   split at h
   ·rename_i hML
    obtain⟨b,hb,hr⟩:=hM.blk _ _ hML
    exact⟨b,he.trans hb,trivial⟩
   ·exact h.elim
   ·rename_i t cs t' cs' hML
    split at h
    ·rename_i ht
     have:=Nat.eq_of_beq_eq_true ht
     subst this
     obtain⟨b,hb,vs,h1,h2,h3⟩:=hM.blk _ _ hML
     exact⟨b,he.trans hb,vs,h1,(jv n).2 cs cs' _ h h2,h3⟩
    ·exact h.elim
   ·rename_i t α d enc l t' α' d' enc' l' hML
    obtain⟨b,hb,hr⟩:=hM.blk _ _ hML
    rw[h] at hr
    exact⟨b,he.trans hb,hr⟩
   ·rename_i α d enc l α' d' enc' l' hML
    obtain⟨b,hb,hr⟩:=hM.blk _ _ hML
    rw[h] at hr
    exact⟨b,he.trans hb,hr⟩
   ·rename_i s p s' p' hML
    obtain⟨rfl,rfl⟩:=h
    obtain⟨b,hb,hr⟩:=hM.blk _ _ hML
    exact⟨b,he.trans hb,hr⟩
   ·rename_i hML
    obtain⟨b,hb,hr⟩:=hM.blk _ _ hML
    rw[h] at hr
    exact⟨b,he.trans hb,hr⟩
   ·rename_i hML
    obtain⟨b,hb,hr⟩:=hM.blk _ _ hML
    rw[h] at hr
    exact⟨b,he.trans hb,hr⟩
   ·exact h.elim
  ·rename_i sz hf
   split at h
   ·subst h
    exact⟨⟨0,0,0,sz,true⟩,by unfold bK;rw[hf],rfl,by simp, .inl ⟨rfl,rfl,rfl⟩⟩
   ·exact h.elim
  ·exact h.elim
 ·obtain⟨ℓ,B0,f1,m1,r1,l1⟩:=live x B h1 b h3 h5
  obtain⟨ℓ2,C0,f2,m2,r2,l2⟩:=live y C h2 c h4 h6
  refine hM.inj ℓ ℓ2 B0 C0 b c m1 m2 r1 r2 l1 l2 fun e=>?_
  subst e
  exact hne (qI ho (jw (nt h1 h5) f1) (jw (nt h2 h6) f2))
end
def c0 (L:List (Nat×aX)) (M:ai):ai:=fun ℓ=>match ai.ofL L ℓ with
 |some B=>some B
 |none=>M ℓ
def wK (lm lb:b8):Bool:=lm.all fun p=>match p.2 with
 | .old ℓ=>(match aA lb ℓ with|some (.old m)=>Nat.beq m p.1|_=>false)
 | .nil _=>true
def oI (lm lb:b8) (M:ai):Bool:=lb.all fun p=>(lm.any fun q=>match q.2 with| .old ℓ=>Nat.beq ℓ p.1| .nil _=>false)||(M p.1).isNone
section
variable {S F F2:ag} {ρ:aw} {M:ai} {w:World} {P:Program}
theorem da.reF {b:dU} {B:aX} (h:da S F ρ w b B) (hf:B.live b->F2 b.blk=none):da S F2 ρ w b B:=by
 cases B with
 |box t cells=>obtain⟨vs,h1,h2,h3,h4⟩:=h;exact⟨vs,h1,h2,h3,hf trivial⟩
 |row t d enc l=>
  obtain⟨h1,h2,h3⟩:=h
  exact⟨h1,h2,h3.imp id fun⟨hn,hc,vs,h4,h5,h6,h7,h8⟩=>⟨hn,hc,vs,h4,h5,h6,h7,hf hn⟩⟩
 |gone d enc l=>exact h
 |iter s pos=>exact⟨h.1,h.2.1,hf trivial⟩
 |map ek ev l=>obtain⟨es,ck,h1,h2,h3,h4⟩:=h;exact⟨es,ck,h1,h2,h3,hf trivial⟩
 |obj o=>exact⟨h.1,h.2.1,hf trivial⟩
 |hdr t g m=>
  obtain⟨l,hlm,hg,h1,h2,h3⟩:=h
  exact⟨l,hlm,hg,h1,h2,h3.imp id fun⟨hn,hc,vs,h4,h5,h6,h7,h8⟩=>⟨hn,hc,vs,h4,h5,h6,h7,hf hn⟩⟩
 |dead=>trivial
theorem ax.reF (hM:ax S F ρ M w) (h1:F2.inW w) (h2:∀k,S k=none\/F2 k=none) (h3:∀ℓ B b,M ℓ=some B->ρ ℓ=some b->B.live b->F2 b.blk=none):ax S F2 ρ M w:=
 ⟨hM.sw,h1,h2,hM.dom,fun ℓ B hB=>let ⟨b,hb,hr⟩:=hM.blk ℓ B hB;⟨b,hb,hr.reF (h3 ℓ B b hB hb)⟩,hM.inj,hM.gl⟩
theorem mD:∀{lm:b8},An lm=true->∀{ℓ:Nat} {x:LM},(ℓ,x)∈lm->aA lm ℓ=some x
 |[],_,_,_,h=>by cases h
 |(k,y)::r,hd,ℓ,x,h=>by
  simp only[An,Bool.and_eq_true] at hd
  simp only[aA]
  rcases List.mem_cons.1 h with e|h
  ·injection e with e1 e2;subst e1;subst e2;simp
  ·have:=List.all_eq_true.1 hd.1 _ h
   simp only[Bool.not_eq_true'] at this
   have hne:Nat.beq k ℓ=false:=by
    cases hb:Nat.beq k ℓ
    ·rfl
    ·have:=Nat.eq_of_beq_eq_true hb;subst this;simp at*
   rw[hne]
   exact mD hd.2 h
theorem an.call {f:FuncId} {args args':List AV} {K R:AV->ai->Prop} (lm:b8) (L:List (Nat×aX)) (n:Nat) (hs:(gX lm L&&f5 L lm&&An lm)=true) (hm:dK lm n M L) (ha:ge lm n args args')
  (h:an P f args' (ai.ofL L) R)
  (hk:∀u M',R u M'->∃(lb:b8) (L2:List (Nat×aX)) (u':AV),(gX lb L2&&f5 L2 lb&&wK lm lb&&oI lm lb M)=true/\dK lb n M' L2/\mC lb n u u'/\K u' (c0 L2 M)):an P f args M K:=by
 rw[bT] at h⊢
 refine⟨h.1,fun S F ρ vs w hM hv=>?_⟩
 simp only[Bool.and_eq_true] at hs
 obtain⟨⟨hs1,hs2⟩,hs3⟩:=hs
 let own:Nat->Prop:=fun ℓ=>∃ℓ',aA lm ℓ'=some (.old ℓ)
 have hMr:=hM.relabel hm hs1 hs2
 have hlive:∀ℓ' B' b,ai.ofL L ℓ'=some B'->bK lm ρ ℓ'=some b->B'.live b->fK F ρ M w own b.blk=none:=by
  intro ℓ' B' b hB' hb hl
  obtain⟨b',hb',hr'⟩:=hMr.blk _ _ hB'
  rw[hb] at hb';cases hb'
  have hFb:=(hr'.off hl).2
  have hh:=nq hm ℓ' B' (eO hB')
  unfold bK at hb
  cases hf:aA lm ℓ' with
  |none=>rw[hf] at hb;cases hb
  |some x=>
   rw[hf] at hb hh
   cases x with
   |nil sz=>
    simp only[Option.some.injEq] at hb
    subst hb
    simp only at hh
    split at hh
    ·simp[aX.live] at hl
    ·exact hh.elim
   |old ℓ=>
    simp only at hb hh
    have hB:∃B,M ℓ=some B/\B.live b:=by
     unfold ie at hh
     split at hh
     ·exact hl.elim
     ·exact hh.elim
     ·rename_i hML;exact⟨_,hML,trivial⟩
     ·rename_i hML;exact⟨_,hML,by rw[hh];exact hl⟩
     ·exact hl.elim
     ·rename_i hML;exact⟨_,hML,trivial⟩
     ·rename_i hML;exact⟨_,hML,trivial⟩
     ·rename_i hML;exact⟨_,hML,trivial⟩
     ·exact hh.elim
    obtain⟨B,hML,hBl⟩:=hB
    unfold fK
    rw[if_neg]
    ·exact hFb
    ·rintro⟨y,C,c,h1,h2,h3,h4,h5⟩
     refine hM.inj y ℓ C B c b h1 hML h2 hb h3 hBl (fun e=>?_) h4
     subst e
     exact h5 ⟨ℓ',hf⟩
 have hMc:=hMr.reF (oH (own:=own) hM) (qG hM) hlive
 refine(h.2 S (fK F ρ M w own) (bK lm ρ) vs w hMc ((jv n).2 args args' vs ha hv)).mono ?_
 rintro e w' ⟨v,u,M',S',ρ',rfl,hR,hle,hρ,hM',hr,hw⟩
 obtain⟨lb,L2,u',hb,hm2,hau,hK⟩:=hk u M' hR
 simp only[Bool.and_eq_true] at hb
 obtain⟨⟨⟨hb1,hb2⟩,hb3⟩,hb4⟩:=hb
 have hM2:=hM'.relabel hm2 hb1 hb2
 let ρ2:aw:=fun ℓ=>match bK lb ρ' ℓ with
  |some b=>some b
  |none=>ρ ℓ
 have hle1:aw.le (bK lb ρ') ρ2:=fun ℓ b hb=>by show(match bK lb ρ' ℓ with|some b=>some b|none=>ρ ℓ)=_;rw[hb]
 have hback:∀ℓ ℓ',aA lm ℓ'=some (.old ℓ)->aA lb ℓ=some (.old ℓ'):=by
  intro ℓ ℓ' hf
  have:=List.all_eq_true.1 hb3 _ (cN hf)
  simp only at this
  split at this
  ·rename_i m hm'
   rw[hm',Nat.eq_of_beq_eq_true this]
  ·cases this
 have hle2:aw.le ρ ρ2:=by
  intro ℓ b hb
  show(match bK lb ρ' ℓ with|some b=>some b|none=>ρ ℓ)=_
  cases hf:aA lb ℓ with
  |none=>
   have:bK lb ρ' ℓ=none:=by unfold bK;rw[hf]
   rw[this];exact hb
  |some x=>
   have:=List.all_eq_true.1 hb4 _ (cN hf)
   simp only[Bool.or_eq_true] at this
   rcases this with h1|h1
   ·obtain⟨q,hq,hq2⟩:=List.any_eq_true.1 h1
    obtain⟨k,y⟩:=q
    cases y with
    |nil _=>cases hq2
    |old m=>
     simp only at hq2
     have:=Nat.eq_of_beq_eq_true hq2
     subst this
     have hfl:=mD hs3 hq
     have hbk:=hback _ _ hfl
     have he:bK lm ρ k=some b:=by unfold bK;rw[hfl];exact hb
     have h2:bK lb ρ' m=some b:=by unfold bK;rw[hbk];exact hρ _ _ he
     rw[h2]
   ·exfalso
    have hn:M ℓ=none:=by cases hh:M ℓ with
     |none=>rfl
     |some B=>simp[hh] at h1
    exact hM.dom ℓ b hb hn
 have hF:∀k o,F k=some o->fK F ρ M w own k=some o:=lg hM
 have framed:∀ℓ B b,ai.ofL L2 ℓ=none->M ℓ=some B->ρ ℓ=some b->B.live b->fK F ρ M w own b.blk=w.heap[b.blk]?:=by
  intro ℓ B b h0 h1 h2 h3
  refine mM h1 h2 h3 fun⟨ℓ',hf⟩=>?_
  have:=List.all_eq_true.1 hb1 _ (cN (hback _ _ hf))
  simp only at this
  rw[h0] at this;cases this
 refine⟨v,u',c0 L2 M,S',ρ2,rfl,hK,hle,hle2,⟨hM'.sw,fun k o hk=>hM'.fw k o (hF k o hk),fun k=>?_,fun ℓ b hb=>?_,fun ℓ B hB=>?_,fun x y B C b c h1 h2 h3 h4 h5 h6 hne=>?_,hM'.gl⟩,((jv n).1 u u' v hau hr).mono (ag.le_refl _) hle1,hw⟩
 ·rcases hM'.sf k with h1|h1
  ·exact .inl h1
  ·right
   cases hk:F k with
   |none=>rfl
   |some o=>rw[hF k o hk] at h1;cases h1
 ·unfold c0
  cases h2:ai.ofL L2 ℓ with
  |some B=>simp
  |none=>
   have hb:(match bK lb ρ' ℓ with|some b=>some b|none=>ρ ℓ)=some b:=hb
   cases h3:bK lb ρ' ℓ with
   |some b'=>exact absurd h2 (hM2.dom _ _ h3)
   |none=>rw[h3] at hb;exact hM.dom _ _ hb
 ·unfold c0 at hB
  cases h2:ai.ofL L2 ℓ with
  |some B'=>
   rw[h2] at hB
   cases hB
   obtain⟨b,hb,hr2⟩:=hM2.blk _ _ h2
   refine⟨b,hle1 _ _ hb,(hr2.keep (ag.le_refl _) hle1 fun _=>⟨rfl,rfl⟩).reF fun hl=>?_⟩
   have:=(hr2.off hl).2
   cases hk:F b.blk with
   |none=>rfl
   |some o=>rw[hF _ o hk] at this;cases this
  |none=>
   rw[h2] at hB
   obtain⟨b,hb,hr2⟩:=hM.blk _ _ hB
   refine⟨b,hle2 _ _ hb,hr2.keep hle hle2 fun hl=>?_⟩
   have hk:=framed ℓ B b h2 hB hb hl
   obtain⟨o,ho⟩:∃o,w.heap[b.blk]? =some o:=⟨_,Array.getElem?_eq_getElem (hr2.lt hl)⟩
   refine⟨by rw[hM'.fw _ o (hk.trans ho),ho],?_⟩
   rw[(hr2.off hl).1]
   rcases hM'.sf b.blk with h1|h1
   ·exact h1
   ·rw[hk,ho] at h1;cases h1
 ·have back:∀z D d,c0 L2 M z=some D->ρ2 z=some d->D.live d->(ai.ofL L2 z=some D/\bK lb ρ' z=some d)\/(ai.ofL L2 z=none/\M z=some D/\ρ z=some d):=by
   intro z D d hD hd hl
   unfold c0 at hD
   cases hz:ai.ofL L2 z with
   |some D'=>
    rw[hz] at hD;cases hD
    obtain⟨b',hb',_⟩:=hM2.blk _ _ hz
    have:=hle1 _ _ hb'
    rw[hd] at this;cases this
    exact .inl ⟨rfl,hb'⟩
   |none=>
    rw[hz] at hD
    obtain⟨b',hb',_⟩:=hM.blk _ _ hD
    have:=hle2 _ _ hb'
    rw[hd] at this;cases this
    exact .inr ⟨rfl,hD,hb'⟩
  have mixed:∀z D d z' D' d',ai.ofL L2 z=some D->bK lb ρ' z=some d->D.live d->ai.ofL L2 z'=none->M z'=some D'->ρ z'=some d'->D'.live d'->d.blk≠d'.blk:=by
   intro z D d z' D' d' a1 a2 a3 a4 a5 a6 a7 e
   obtain⟨b',hb',hr2⟩:=hM2.blk _ _ a1
   rw[a2] at hb';cases hb'
   have h1:=(hr2.off a3).2
   have h2:=framed z' D' d' a4 a5 a6 a7
   obtain⟨c',hc',hr3⟩:=hM.blk _ _ a5
   rw[a6] at hc';cases hc'
   rw[e,h2,Array.getElem?_eq_getElem (hr3.lt a7)] at h1
   cases h1
  rcases back x B b h1 h3 h5 with ⟨p1,p2⟩|⟨p0,p1,p2⟩<;>rcases back y C c h2 h4 h6 with ⟨q1,q2⟩|⟨q0,q1,q2⟩
  ·exact hM2.inj x y B C b c p1 q1 p2 q2 h5 h6 hne
  ·exact mixed x B b y C c p1 p2 h5 q0 q1 q2 h6
  ·exact fun e=>mixed y C c x B b q1 q2 h6 p0 p1 p2 h5 e.symm
  ·exact hM.inj x y B C b c p1 q1 p2 q2 h5 h6 hne
def pV (ℓ:Nat) (u:AV):AV->AV
 | .row ℓ' n sz=>match Nat.beq ℓ' ℓ with|true=>u|false=> .row ℓ' n sz
 |v=>v
theorem qJ {ℓ:Nat} {α:Type} {d:α} {enc:α->List AV} {l:List α} (hM:ax S F ρ M w) (hl:M ℓ=some (.gone d enc l)) {v:Value} {u:AV} (h:RV S ρ v u):RV S ρ v (pV ℓ (.sl d enc l) u):=by
 unfold pV
 split
 ·rename_i ℓ' n sz
  split
  ·rename_i hb
   have:=Nat.eq_of_beq_eq_true hb
   subst this
   obtain⟨b,hb,_,_,_,rfl⟩:=h.row_inv
   obtain⟨b',hb',_,hr⟩:=hM.blk _ _ hl
   rw[hb] at hb';cases hb'
   exact .p hr
  ·exact h
 ·exact h
theorem an.hand {f:FuncId} {args:List AV} {R:AV->ai->Prop} (ℓ:Nat) {t:TypeId} {α:Type} {d:α} {enc:α->List AV} {l:List α} (hl:M ℓ=some (.row t d enc l))
  (h:an P f (args.map (pV ℓ (.sl d enc l))) (M.set ℓ (.gone d enc l)) R):an P f args M R:=by
 refine an.leak hl (an.weaken h fun S F ρ vs w hM hv=>⟨by simpa using hv.1,fun i u hu=>?_⟩)
 rw[List.getElem?_map] at hu
 obtain⟨u0,h0,rfl⟩:=Option.map_eq_some_iff.1 hu
 obtain⟨v,e,hr⟩:=hv.2 i u0 h0
 exact⟨v,e,qJ hM (ai.set_eq _ _ _) hr⟩
end
end
section
def uY:List AV->Nat->(AV->Prop)->Prop
 |[],_,k=>k .top
 |v::_,0,k=>k v
 |_::l,n+1,k=>uY l n k
theorem lZ:∀(l:List AV) (n:Nat) (k:AV->Prop),uY l n k=k (l.getD n .top)
 |[],_,_=>by simp[uY]
 |_::_,0,_=>by simp[uY]
 |_::l,n+1,k=>by rw[uY,lZ l n k];simp
def uZ:List AV->Nat->AV->(List AV->Prop)->Prop
 |[],_,_,k=>k []
 |_::l,0,v,k=>k (v::l)
 |x::l,n+1,v,k=>uZ l n v fun l'=>k (x::l')
theorem nu:∀(l:List AV) (n:Nat) (v:AV) (k:List AV->Prop),uZ l n v k=k (l.set n v)
 |[],_,_,_=>by simp[uZ]
 |_::_,0,_,_=>by simp[uZ]
 |_::l,n+1,v,k=>by rw[uZ,nu l n v];simp
def wL (fr:List AV) (d:Option Tmp) (u:AV) (k:List AV->Prop):Prop:=
 match d with
 |some d=>uZ fr d u k
 |none=>k fr
def cC (fr:List AV) (d:Option Tmp) (u:AV):List AV:=
 match d with
 |some d=>fr.set d u
 |none=>fr
theorem bN (fr:List AV) (d:Option Tmp) (u:AV) (k:List AV->Prop):wL fr d u k=k (cC fr d u):=by
 cases d<;>simp[wL,cC,nu]
def y4 (v:Value) (k:AV->Prop):Prop:=
 match v with
 | .int i n=>k (.int i n)
 | .bool b=>k (.bool b)
 | .string s=>k (.str s)
 | .slice none 0 0=>k .nilsl
 |v=>k (.val v)
theorem BM (v:Value) (k:AV->Prop):y4 v k=k (db v):=by
 unfold y4 db
 split<;>simp
def LT (fr:List AV) (x:Operand) (k:AV->Prop):Prop:=
 match x with
 | .tmp t=>uY fr t k
 | .const v=>y4 v k
 | .func f=>k (.fn f [])
 | .global g=>k (.val (.pointer (some ⟨g,0,none⟩)))
def dA (fr:List AV):Operand->AV
 | .tmp t=>fr.getD t .top
 | .const v=>db v
 | .func f=> .fn f []
 | .global g=> .val (.pointer (some ⟨g,0,none⟩))
theorem y5 (fr:List AV) (x:Operand) (k:AV->Prop):LT fr x k=k (dA fr x):=by
 cases x<;>simp[LT,dA,lZ,BM]
def y6 (fr:List AV):List Operand->(List AV->Prop)->Prop
 |[],k=>k []
 |x::xs,k=>LT fr x fun u=>y6 fr xs fun us=>k (u::us)
theorem fL (fr:List AV):∀(xs:List Operand) (k:List AV->Prop),y6 fr xs k=k (xs.map (dA fr))
 |[],_=>rfl
 |x::xs,k=>by rw[y6,y5,fL fr xs];rfl
def BN:List AV->List AV->(List AV->Prop)->Prop
 |[],r,k=>k r
 |x::l,r,k=>BN l r fun l'=>k (x::l')
theorem pW:∀(l r:List AV) (k:List AV->Prop),BN l r k=k (l++r)
 |[],_,_=>rfl
 |x::l,r,k=>by rw[BN,pW l r];rfl
structure qK (P:Program) (f:FuncId) (args:List AV) (K:AV->Prop):Prop where
 out:∃R n,ae P f args R/\args.all (bX n)=true/\(∃u,R u)/\∀u,R u->K u
theorem eQ {P:Program} {f:FuncId} {args:List AV} {K:AV->Prop}:qK P f args K↔(∃R n,ae P f args R/\args.all (bX n)=true/\(∃u,R u)/\∀u,R u->K u):=⟨fun h=>h.out,fun h=>⟨h⟩⟩
theorem u3 {P:Program} {f:FuncId} {args:List AV} {K:AV->Prop} {R:AV->Prop} (n:Nat) (h:ae P f args R) (hp:args.all (bX n)=true) (he:∃u,R u) (hk:∀u,R u->K u):qK P f args K:=by
 rw[eQ];exact⟨R,n,h,hp,he,hk⟩
inductive ba
 |any
 |rows
 |pers
 |fresh
 |flat
 |own
 |boxes (as:List (Nat×Nat))
structure kN (P:Program) (f:FuncId) (args:List AV) (M:ai) (K:AV->ai->Prop):Prop where
 out:∃(R:AV->ai->Prop) (n:Nat) (lb:b8) (L2:List (Nat×aX)) (u':AV),an P f args (ai.ofL []) R/\ge [] n args args/\(gX lb L2&&f5 L2 lb&&wK [] lb&&oI [] lb M)=true/\L2.all (fun p=>(M p.1).isNone)=true/\
  (∀u M',R u M'->dK lb n M' L2/\mC lb n u u')/\K u' (c0 L2 M)
theorem kN.spec {P:Program} {f:FuncId} {args:List AV} {M:ai} {K:AV->ai->Prop} (h:kN P f args M K):an P f args M K:=by
 obtain⟨R,n,lb,L2,u',hs,ha,hb,hf,hr,hk⟩:=h.out
 exact an.call [] [] n rfl trivial ha hs fun u M' hR=>⟨lb,L2,u',hb,(hr u M' hR).1,(hr u M' hR).2,hk⟩
theorem kN.mono {P:Program} {f:FuncId} {args:List AV} {M:ai} {K K':AV->ai->Prop} (h:kN P f args M K) (hk:∀u M',K u M'->K' u M'):kN P f args M K':=by
 obtain⟨R,n,lb,L2,u',hs,ha,hb,hf,hr,hK⟩:=h.out
 exact⟨R,n,lb,L2,u',hs,ha,hb,hf,hr,hk _ _ hK⟩
theorem qL:∀{L:List (Nat×aX)} {p:Nat×aX},p∈L->ai.ofL L p.1≠none
 |[],_,h=>by cases h
 |(k,B)::r,p,h=>by
  simp only[ai.ofL]
  split
  ·simp
  ·rename_i hk
   rcases List.mem_cons.1 h with e|h
   ·have e1:p.1=k:=by rw[e]
    rw[e1,Nat.beq_refl] at hk
    cases hk
   ·exact qL h
theorem BO {L:List (Nat×aX)} {M:ai} {d:Nat} (B:aX) (h:ai.ofL L d=none):c0 L (M.set d B)=(c0 L M).set d B:=by
 funext x
 by_cases e:x=d
 ·subst e;rw[ai.set_eq];unfold c0;rw[h,ai.set_eq]
 ·rw[ai.set_ne _ _ e];unfold c0;rw[ai.set_ne _ _ e]
theorem kN.beside {P:Program} {f:FuncId} {args:List AV} {M:ai} {K:AV->ai->Prop} {d:Nat} {B:aX} (h:kN P f args M fun u M1=>M1 d=none/\K u (M1.set d B)):M d=none/\kN P f args (M.set d B) K:=by
 obtain⟨R,n,lb,L2,u',hs,ha,hb,hf,hr,hd,hk⟩:=h.out
 have hL:ai.ofL L2 d=none:=by
  cases hh:ai.ofL L2 d with
  |none=>rfl
  |some B'=>unfold c0 at hd;rw[hh] at hd;cases hd
 have hMd:M d=none:=by unfold c0 at hd;rw[hL] at hd;exact hd
 simp only[Bool.and_eq_true] at hb
 obtain⟨⟨⟨hb1,hb2⟩,hb3⟩,hb4⟩:=hb
 have far:∀k,ai.ofL L2 k≠none->(M k).isNone=true->((M.set d B) k).isNone=true:=by
  intro k h1 h2
  rw[ai.set_ne _ _ (fun e=>h1 (by rw[e];exact hL))]
  exact h2
 refine⟨hMd,⟨R,n,lb,L2,u',hs,ha,?_,?_,hr,?_⟩⟩
 ·simp only[Bool.and_eq_true]
  refine⟨⟨⟨hb1,hb2⟩,hb3⟩,?_⟩
  unfold oI at hb4⊢
  rw[List.all_eq_true] at hb4⊢
  intro p hp
  have:=hb4 p hp
  simp only[List.any_nil,Bool.false_or] at this⊢
  have hkey:=List.all_eq_true.1 hb1 p hp
  exact far _ (fun e=>by rw[e] at hkey;cases hkey) this
 ·rw[List.all_eq_true] at hf⊢
  intro p hp
  exact far _ (qL hp) (hf p hp)
 ·rw[BO B hL];exact hk
def Oe:List (Nat×Nat)->Nat->Option Nat
 |[],_=>none
 |(t,ℓ)::r,n=>match Nat.beq n t with
  |true=>some ℓ
  |false=>Oe r n
def gY (as:List (Nat×Nat)):Operand->Option Nat
 | .tmp t=>Oe as t
 |_=>none
def tE (as:List (Nat×Nat)) (x:Operand):AV->Bool
 | .ptr ℓ _=>match gY as x with
  |some ℓ'=>Nat.beq ℓ ℓ'
  |none=>false
 |_=>false
def wM (r:ba) (P:Program) (f:FuncId) (args:List AV) (M:ai) (K:AV->ai->Prop):Prop:=
 match r with
 | .fresh=>kN P f args M K
 | .own=>an P f args M K
 |_=>qK P f args fun u=>K u M
def y7:ba->Bool
 | .flat=>true
 |_=>false
def fM:ba->Bool
 | .own=>true
 |_=>false
def ca:ba->Bool
 | .fresh=>true
 |_=>false
theorem jc {r:ba} (h:ca r=true) (P:Program) (f:FuncId) (args:List AV) (M:ai) (K:AV->ai->Prop):wM r P f args M K=kN P f args M K:=by
 cases r<;>first|rfl|cases h
theorem Ao {r:ba} (h:fM r=true) (P:Program) (f:FuncId) (args:List AV) (M:ai) (K:AV->ai->Prop):wM r P f args M K=an P f args M K:=by
 cases r<;>first|rfl|cases h
theorem jd {r:ba} (h:ca r=false) (ho:fM r=false) (P:Program) (f:FuncId) (args:List AV) (M:ai) (K:AV->ai->Prop):wM r P f args M K=qK P f args fun u=>K u M:=by
 cases r<;>first|rfl|exact absurd h (by decide)|exact absurd ho (by decide)
def kg (draw:Option ba) (tt:TT) (op:Op) (us:List AV) (M:ai):Rs:=
 match draw with
 |some .rows=>match op with
  | .load t _=>match us with
   |[.rel _ _ _]=> .no
   |[x]=>gb tt t M x
   |_=> .no
  |op=>po tt op us
 |some .pers=>match op with
  | .load t _=>match us with
   |[.pd cells]=>ga tt t cells
   |_=> .no
  |op=>po tt op us
 |some .fresh=>match op with
  | .load t _=>match us with
   |[.pd cells]=>ga tt t cells
   |_=> .no
  |op=>po tt op us
 |some (.boxes as)=>match op with
  | .load t x=>match gY as x with
   |none=>match us with
    |[.pd cells]=>ga tt t cells
    |_=> .no
   |some _=>match us with
    |[a]=>match tE as x a with
     |true=>pR tt (.load t x) [a] M
     |false=> .no
    |_=> .no
  |op=>po tt op us
 |_=>pR tt op us M
def eu (draw:Option ba) (tt:TT) (t:TypeId) (p:Operand) (us:List AV) (M:ai) (K:ai->Prop):Prop:=
 match draw with
 |some .rows=>match us with
  |[.rel ℓ j o,x]=>match bP x with
   |some cs=>match cg cs with
    |true=>er tt t [.rel ℓ j o,x] M K
    |false=>False
   |none=>False
  |_=>False
 |some (.boxes as)=>match us with
  |[a,x]=>match tE as p a with
   |true=>er tt t [a,x] M K
   |false=>False
  |_=>False
 |_=>er tt t us M K
theorem BP {draw:Option ba} {tt:TT} {t:TypeId} {p:Operand} {us:List AV} {M:ai} {K:ai->Prop} (h:eu draw tt t p us M K):er tt t us M K:=by
 unfold eu at h
 split at h
 ·split at h
  ·split at h
   ·split at h
    ·exact h
    ·exact h.elim
   ·exact h.elim
  ·exact h.elim
 ·split at h
  ·split at h
   ·exact h
   ·exact h.elim
  ·exact h.elim
 ·exact h
theorem ki (draw:Option ba) (tt:TT) (op:Op) (us:List AV) (M:ai):kg draw tt op us M= .no\/kg draw tt op us M=pR tt op us M:=by
 have other:∀(op:Op),(∀t x,op= .load t x->False)->po tt op us=pR tt op us M:=by
  intro op h
  unfold pR
  split
  ·rename_i t x;exact absurd rfl (h t x)
  ·rfl
 unfold kg
 split
 ·split
  ·split
   ·exact .inl rfl
   ·exact .inr rfl
   ·exact .inl rfl
  ·rename_i h
   exact .inr (other _ h)
 ·split
  ·split
   ·exact .inr rfl
   ·exact .inl rfl
  ·rename_i h
   exact .inr (other _ h)
 ·split
  ·split
   ·exact .inr rfl
   ·exact .inl rfl
  ·rename_i h
   exact .inr (other _ h)
 ·split
  ·split
   ·split
    ·exact .inr rfl
    ·exact .inl rfl
   ·split
    ·split
     ·exact .inr rfl
     ·exact .inl rfl
    ·exact .inl rfl
  ·rename_i h
   exact .inr (other _ h)
 ·exact .inr rfl
structure pq (u:AV) (M:ai) (K:AV->ai->Prop):Prop where
 out:K u M\/dJ [u] M fun us M'=>match us with|[x]=>K x M'|_=>False
theorem iH {u:AV} {M:ai} {K:AV->ai->Prop} (h:K u M):pq u M K:=⟨.inl h⟩
theorem ew {u:AV} {M:ai} {K:AV->ai->Prop} (h:dJ [u] M fun us M'=>match us with|[x]=>K x M'|_=>False):pq u M K:=⟨.inr h⟩
theorem BQ {u:AV} {M:ai} {K:AV->ai->Prop}:pq u M K↔(K u M\/dJ [u] M fun us M'=>match us with|[x]=>K x M'|_=>False):=⟨fun h=>h.out,fun h=>⟨h⟩⟩
def tF (draw:Option ba) (K:AV->ai->Prop):AV->ai->Prop:=
 match draw with
 |none=>K
 |some _=>fun u M=>pq u M K
def u4 (tt:TT) (t:TypeId):Bool:=
 match tt.find t with
 |some ⟨_,_, .slice e,_⟩=>match tt.find e with
  |some ⟨_,_, .int _,_⟩=>true
  |some ⟨_,_, .bool,_⟩=>true
  |some ⟨_,_, .string,_⟩=>true
  |_=>false
 |_=>false
def BR:AV->Bool
 | .row _ _ _=>false
 |_=>true
def Ap:List AV->Bool
 |[]=>true
 |u::us=>match BR u with|true=>Ap us|false=>false
def IU:AV->Bool
 | .row _ _ _=>false
 | .agg cs=>Ap cs
 |_=>true
def l6:List AV->Bool
 |[]=>true
 |u::us=>match IU u with|true=>l6 us|false=>false
def wN:List Operand->Bool
 | .const (.slice none 0 0)::_=>true
 |_=>false
def oJ (draw:Option ba) (tt:TT) (t:TypeId) (len:Nat) (is:List Nat) (us:List AV) (dst:Option Tmp) (M:ai) (K:AV->ai->Prop):Prop:=
 match draw with
 |none=>eY tt t len is us dst M K
 |some r=>match (match y7 r with|true=>true|false=>u4 tt t) with
  |true=>match l6 us with
   |true=>eY tt t len is us dst M (tF (some r) K)
   |false=>False
  |false=>eY tt t len is us dst M (tF (some r) K)
theorem tG {draw:Option ba} {tt:TT} {t:TypeId} {len:Nat} {is:List Nat} {us:List AV} {dst:Option Tmp} {M:ai} {K:AV->ai->Prop} (h:oJ draw tt t len is us dst M K):eY tt t len is us dst M (tF draw K):=by
 unfold oJ at h
 cases draw with
 |none=>exact h
 |some r=>
  simp only at h
  split at h
  ·split at h
   ·exact h
   ·exact h.elim
  ·exact h
def y8 (draw:Option ba) (tt:TT) (args:List Operand) (ts:List TypeId) (us:List AV) (dst:Option Tmp) (M:ai) (K:AV->ai->Prop):Prop:=
 match draw with
 |some .fresh=>match wN args with
  |true=>match us with
   |[.nilsl, .sl d enc l]=>kM tt ts [.nilsl, .sl d enc l] dst M K
   |_=>False
  |false=>kM tt ts us dst M K
 |_=>kM tt ts us dst M K
theorem Aq {draw:Option ba} {tt:TT} {args:List Operand} {ts:List TypeId} {us:List AV} {dst:Option Tmp} {M:ai} {K:AV->ai->Prop} (h:y8 draw tt args ts us dst M K):kM tt ts us dst M K:=by
 unfold y8 at h
 split at h
 ·split at h
  ·split at h
   ·exact h
   ·exact h.elim
  ·exact h
 ·exact h
def bz (P:Program) (tt:TT) (draw:Option ba) (o:Oper) (us:List AV) (M:ai) (K:AV->ai->Prop):Prop:=
 match o.op with
 | .store t p _=>match draw with
  |none=>uR tt t us M fun M'=>K (.tup []) M'
  |some _=>eu draw tt t p us M fun M'=>K (.tup []) M'
 | .alloc t=>jt tt t o.dst M K
 | .box t _=>DJ t us o.dst M K
 | .makeSlice t _ _=>match draw with
  |none=>NC (mA tt t us o.dst M K) tt t us M K
  |some _=>mA tt t us o.dst M K
 | .range t _=>qB tt t us o.dst M K
 | .next _ str=>wz str us M K
 | .slice t _ lo hi mx=>match draw with
  |none=>match lo,hi,mx,us with
   |none,some _,none,[.row ℓ n sz, .int _ b]=>yZ (uS tt t ℓ n sz b o.dst M K) (Ak tt t ℓ n sz 0 b M K)
   |some _,none,none,[.row ℓ n sz, .int _ a]=>Ak tt t ℓ n sz a n M K
   |some _,none,none,[.part ℓ lo n sz, .int _ a]=>y3 tt t ℓ lo n sz a M K
   |_,_,_,_=>fZ (pR tt o.op us M) fun u=>K u M
  |some _=>fZ (kg draw tt o.op us M) fun u=>K u M
 | .convert s d _=>match draw with
  |none=>match us with
   |[.row ℓ _ _]=>JO tt s d ℓ M K
   |_=>fZ (pR tt o.op us M) fun u=>K u M
  |some _=>fZ (kg draw tt o.op us M) fun u=>K u M
 | .makeMap _ r=>match draw,r with
  |none,none=>JM o.dst M K
  |_,_=>fZ (kg draw tt o.op us M) fun u=>K u M
 | .lookup t _ _ ok=>match draw with
  |none=>DV P tt t ok us M K
  |some _=>fZ (kg draw tt o.op us M) fun u=>K u M
 | .mapUpdate t _ _ _=>match draw with
  |none=>JN P tt t us M fun M'=>K (.tup []) M'
  |some _=>fZ (kg draw tt o.op us M) fun u=>K u M
 | .buildSlice t len ps=>match draw with
  |none=>JJ (oJ none tt t len (ps.toList.map (·.1)) us o.dst M K) tt t len (ps.toList.map (·.1)) us o.dst M K
  |some _=>oJ draw tt t len (ps.toList.map (·.1)) us o.dst M K
 | .call c=>match c.callee with
  | .value _=>match us with
   | .fn f caps::args=>match draw with
    |none=>BN args caps fun l=>an P f l M K
    |some r=>BN args caps fun l=>wM r P f l M K
   |_=>False
  | .builtin .append=>match draw with
   |none=>JH (JI (y8 none tt c.args.toList c.argTypes.toList us o.dst M K) tt c.argTypes.toList us o.dst M K) tt c.argTypes.toList us o.dst M K
   |some _=>y8 draw tt c.args.toList c.argTypes.toList us o.dst M K
  | .builtin .copy=>match draw with
   |none=>DK tt c.argTypes.toList us M K
   |some _=>fZ (kg draw tt o.op us M) fun u=>K u M
  |_=>fZ (kg draw tt o.op us M) fun u=>K u M
 |_=>fZ (kg draw tt o.op us M) fun u=>K u M
section
variable {S F:ag} {ρ:aw} {M:ai} {w:World} {P:Program} {tt:TT}
theorem ei.eval {a:Act} {fr:List AV} (h:ei S ρ a fr) (x:Operand):RV S ρ (a.eval x) (dA fr x):=by
 cases x with
 |tmp t=>
  simp only[Act.eval,dA]
  by_cases ht:t<fr.length
  ·have hg:fr[t]? =some (fr.getD t .top):=by simp[List.getD,ht]
   obtain⟨v,hv,hr⟩:=h.1.2 t _ hg
   have:a.tmps.getD t undef=v:=by
    have hv':a.tmps[t]? =some v:=by simpa using hv
    simp[hv']
   rw[this];exact hr
  ·have:fr.getD t .top= .top:=by simp[List.getD,ht]
   rw[this];exact .p (.top _)
 |const v=>exact .p (jE v)
 |func f=>exact RV.fn_mk f (be.nil _ _)
 |global g=>exact .p (.val _)
theorem ei.evals {a:Act} {fr:List AV} (h:ei S ρ a fr):∀xs:List Operand,be S ρ (xs.map a.eval) (xs.map (dA fr))
 |[]=>be.nil _ _
 |x::xs=>be.cons (h.eval x) (ei.evals h xs)
theorem be.set_ {vs:List Value} {us:List AV} (h:be S ρ vs us) (d:Nat) {v:Value} {u:AV} (hv:RV S ρ v u):be S ρ (vs.set d v) (us.set d u):=by
 refine⟨by simp[h.1],fun i x hx=>?_⟩
 rw[List.getElem?_set] at hx⊢
 split at hx
 ·split at hx
  ·rename_i e hl
   subst e
   cases hx
   exact⟨v,by rw[if_pos rfl,if_pos (by rw[h.1];exact hl)],hv⟩
  ·simp at hx
 ·rename_i e
  obtain⟨y,hy,hr⟩:=h.2 i x hx
  exact⟨y,by rw[if_neg e];exact hy,hr⟩
theorem ei.put {a:Act} {fr:List AV} (h:ei S ρ a fr) (d:Option Tmp) {v:Value} {u:AV} (hv:RV S ρ v u):ei S ρ (a.put d v) (cC fr d u):=by
 cases d with
 |none=>exact h
 |some d=>exact⟨by simpa[Act.put,cC] using h.1.set_ d hv,h.2⟩
theorem ei.mono {S':ag} {ρ':aw} {a:Act} {fr:List AV} (h:ei S ρ a fr) (hS:S.le S') (hρ:aw.le ρ ρ'):ei S' ρ' a fr:=⟨h.1.mono hS hρ,h.2⟩
def cI (S F:ag) (ρ:aw) (w:World) (K:List AV->ai->Prop) (a:Act) (w':World):Prop:=
 ∃fr M' S' ρ',K fr M'/\S.le S'/\aw.le ρ ρ'/\ax S' F ρ' M' w'/\ei S' ρ' a fr/\ce w w'
theorem cI.trans {S':ag} {ρ':aw} {w' w'':World} {K:List AV->ai->Prop} {a:Act} (h:cI S' F ρ' w' K a w'') (hS:S.le S') (hρ:aw.le ρ ρ') (hw:ce w w'):cI S F ρ w K a w'':=by
 obtain⟨fr,M',S2,ρ2,hk,h1,h2,h3,h4,h5⟩:=h
 exact⟨fr,M',S2,ρ2,hk,ag.le_trans hS h1,aw.le_trans hρ h2,h3,h4,hw.trans h5⟩
theorem cI.mono {K K':List AV->ai->Prop} {a:Act} {w':World} (h:cI S F ρ w K a w') (hk:∀fr M,K fr M->K' fr M):cI S F ρ w K' a w':=by
 obtain⟨fr,M',S2,ρ2,h0,h⟩:=h
 exact⟨fr,M',S2,ρ2,hk _ _ h0,h⟩
theorem DX {o:Oper} {a:Act} {next:Act->World->Prop} {Q:Exit->Act->World->Prop} {m:Sem Value} {v:Value} {w':World} (he:execOp a.eval o=(do pure (.value (<-m)))) (h:m.run P w= .ok v w') (hn:next (a.put o.dst v) w'):
  o.wp P a w next Q:=by
 unfold Oper.wp;rw[he];simp only[Sem.run_bind,h,Result.andThen_ok,Sem.run_pure,Oper.upon];exact hn
theorem GY (hT:aW P tt=true) {draw:Option ba} {o:Oper} {us:List AV} {a:Act} {K:AV->ai->Prop} {Q:Exit->Act->World->Prop} {fr:List AV} (h:bz P tt draw o us M K) (hM:ax S F ρ M w) (hF:ei S ρ a fr)
  (hu:be S ρ ((bh o.op).map a.eval) us):o.wp P a w (cI S F ρ w (fun fr' M'=>∃u,K u M'/\fr'=cC fr o.dst u)) Q:=by
 have fin:∀{m:Sem Value},execOp a.eval o=(do pure (.value (<-m)))->bW P S F ρ w m K->o.wp P a w (cI S F ρ w (fun fr' M'=>∃u,K u M'/\fr'=cC fr o.dst u)) Q:=by
  intro m he ⟨v,u,M',S',ρ',w',hr,hK,h1,h2,h3,h4,h5⟩
  exact DX he hr ⟨_,M',S',ρ',⟨u,hK,rfl⟩,h1,h2,h3,(hF.mono h1 h2).put _ h4,h5⟩
 have rs:∀{r:Rs},yQ S ρ P w (execOp a.eval o) r->∀{r':Rs},(r'= .no\/r'=r)->fZ r' (fun u=>K u M)->o.wp P a w (cI S F ρ w (fun fr' M'=>∃u,K u M'/\fr'=cC fr o.dst u)) Q:=by
  intro r hr r' hr' hk
  rcases hr' with rfl|rfl
  ·exact hk.elim
  obtain⟨v,u,he,hv,hK⟩:=DI hk hr
  unfold Oper.wp
  rw[he]
  exact⟨_,M,S,ρ,⟨u,hK,rfl⟩,ag.le_refl _,aw.le_refl _,hM,hF.put _ hv,ce.refl _⟩
 obtain⟨dst,op,ty,ps,af,gd⟩:=o
 unfold bz at h
 cases op with
 |store t x y=>
  have hL:nj P S F ρ w (Instr.storeAt t (a.eval x) (a.eval y)) (fun M'=>K (.tup []) M'):=by
   cases draw with
   |none=>exact BL hT h hM hu
   |some r=>exact lV hT (va:=a.eval x) (vx:=a.eval y) (BP h) hM hu
  obtain⟨M',S',ρ',w',hr,hK,h1,h2,h3,h5⟩:=hL
  unfold Oper.wp
  have he:(execOp a.eval ⟨dst, .store t x y,ty,ps,af,gd⟩).run P w= .ok .skip w':=by
   simp only[execOp,Sem.run_bind,hr,Result.andThen_ok,Sem.run_pure]
  rw[he]
  refine⟨_,M',S',ρ',⟨_,hK,rfl⟩,h1,h2,h3,(hF.mono h1 h2).put _ ?_,h5⟩
  exact RV.tup_mk (be.nil _ _)
 |alloc t=>exact fin rfl (BG hT h hM)
 |range t x=>exact fin rfl (BH (v:=a.eval x) hT h hM hu)
 |next x str=>exact fin rfl (DN (v:=a.eval x) h hM hu)
 |slice t x lo hi mx=>
  simp only at h
  split at h
  ·split at h
   ·rename_i y ℓ n sz k b
    obtain⟨v0,vs1,e,h0,hv1⟩:=hu.cons_inv
    obtain⟨v1,vs2,e',h1,hv2⟩:=hv1.cons_inv
    have hv2':=hv2.nil_inv
    subst hv2'
    subst e'
    simp only[bh,Option.toList,List.nil_append,List.append_nil,List.map_cons,List.map_nil,List.cons.injEq,and_true] at e
    obtain⟨e1,e2⟩:=e
    have hi:=h1.int_inv
    rw[<-e2] at hi
    rw[<-e1] at h0
    rcases h.out with h|h
    ·have:=yY (P:=P) (k:=k) hT h hM h0
     rw[<-hi] at this
     exact fin rfl this
    ·exact fin rfl (wJ (P:=P) (kl:=k) (kh:=k) hT h hM h0 (.inr ⟨rfl,rfl⟩) (.inl (by rw[<-hi];rfl)))
   ·rename_i y ℓ n sz k b
    obtain⟨v0,vs1,e,h0,hv1⟩:=hu.cons_inv
    obtain⟨v1,vs2,e',h1,hv2⟩:=hv1.cons_inv
    have hv2':=hv2.nil_inv
    subst hv2'
    subst e'
    simp only[bh,Option.toList,List.nil_append,List.append_nil,List.map_cons,List.map_nil,List.cons.injEq,and_true] at e
    obtain⟨e1,e2⟩:=e
    have hi:=h1.int_inv
    rw[<-e2] at hi
    rw[<-e1] at h0
    exact fin rfl (wJ (P:=P) (kl:=k) (kh:=k) hT h hM h0 (.inl (by rw[<-hi];rfl)) (.inr ⟨rfl,rfl⟩))
   ·rename_i y ℓ p n sz k b
    obtain⟨v0,vs1,e,h0,hv1⟩:=hu.cons_inv
    obtain⟨v1,vs2,e',h1,hv2⟩:=hv1.cons_inv
    have hv2':=hv2.nil_inv
    subst hv2'
    subst e'
    simp only[bh,Option.toList,List.nil_append,List.append_nil,List.map_cons,List.map_nil,List.cons.injEq,and_true] at e
    obtain⟨e1,e2⟩:=e
    have hi:=h1.int_inv
    rw[<-e2] at hi
    rw[<-e1] at h0
    have:=BK (P:=P) (k:=k) hT h hM h0
    rw[<-hi] at this
    exact fin rfl this
   ·exact rs (iB hT hM a.eval _ hu) (.inr rfl) h
  ·exact rs (iB hT hM a.eval _ hu) (ki _ tt _ _ _) h
 |box t x=>exact fin rfl (GO (v:=a.eval x) h hM hu)
 |convert t d x=>
  simp only at h
  split at h
  ·split at h
   ·rename_i ℓ n sz
    obtain⟨v0,vs1,e,h0,hv1⟩:=hu.cons_inv
    have hv1':=hv1.nil_inv
    subst hv1'
    simp only[bh,List.map_cons,List.map_nil,List.cons.injEq,and_true] at e
    rw[<-e] at h0
    exact fin rfl (GV (P:=P) hT h hM h0)
   ·exact rs (iB hT hM a.eval _ hu) (.inr rfl) h
  ·exact rs (iB hT hM a.eval _ hu) (ki _ tt _ _ _) h
 |makeMap t r=>
  simp only at h
  split at h
  ·exact fin rfl (GT (t:=t) h hM)
  ·exact rs (iB hT hM a.eval _ hu) (ki _ tt _ _ _) h
 |lookup t x y ok=>
  simp only at h
  split at h
  ·exact fin rfl (DW (P:=P) (vm:=a.eval x) (vk:=a.eval y) hT h hM hu)
  ·exact rs (iB hT hM a.eval _ hu) (ki _ tt _ _ _) h
 |mapUpdate t x y z=>
  simp only at h
  split at h
  ·obtain⟨M',S',ρ',w',hr,hK,h1,h2,h3,h5⟩:=GU (P:=P) (vm:=a.eval x) (vk:=a.eval y) (vx:=a.eval z) hT h hM hu
   unfold Oper.wp
   have he:(execOp a.eval ⟨dst, .mapUpdate t x y z,ty,ps,af,gd⟩).run P w= .ok .skip w':=by
    simp only[execOp,Sem.run_bind,hr,Result.andThen_ok,Sem.run_pure]
   rw[he]
   refine⟨_,M',S',ρ',⟨_,hK,rfl⟩,h1,h2,h3,(hF.mono h1 h2).put _ ?_,h5⟩
   exact RV.tup_mk (be.nil _ _)
  ·exact rs (iB hT hM a.eval _ hu) (ki _ tt _ _ _) h
 |makeSlice t x y=>
  cases draw with
  |none=>exact fin rfl (JQ hT (vl:=a.eval x) (vc:=a.eval y) h hM hu fun h=>wA hT (vl:=a.eval x) (vc:=a.eval y) h hM hu)
  |some r=>exact fin rfl (wA hT (vl:=a.eval x) (vc:=a.eval y) h hM hu)
 |buildSlice t len parts=>
  have hz:((parts.toList.map (·.1)).zip ((parts.toList.map (·.2)).map a.eval)).toArray=parts.map fun(i,x)=>(i,a.eval x):=by
   apply Array.ext'
   simp only[List.toList_toArray,Array.toList_map,List.map_map]
   rw[List.zip_map']
   rfl
  refine fin rfl ?_
  cases draw with
  |none=>
   have:=GW (P:=P) (S:=S) (F:=F) (ρ:=ρ) (w:=w) (vs:=(parts.toList.map (fun p:Nat×Operand=>p.2)).map a.eval) hT h hM hu (by simp)
    (fun hA=>oG (P:=P) (S:=S) (F:=F) (ρ:=ρ) (w:=w) (vs:=(parts.toList.map (fun p:Nat×Operand=>p.2)).map a.eval) hT (tG hA) hM hu (by simp))
   rw[hz] at this
   exact this
  |some r=>
   have:=oG (P:=P) (S:=S) (F:=F) (ρ:=ρ) (w:=w) (vs:=(parts.toList.map (fun p:Nat×Operand=>p.2)).map a.eval) hT (tG h) hM hu (by simp)
   rw[hz] at this
   obtain⟨v,u,M',S',ρ',w',hr,hK,h1,h2,h3,h4,h5⟩:=this
   have hK':pq u M' K:=hK
   rcases hK'.out with hK|hK
   ·exact⟨v,u,M',S',ρ',w',hr,hK,h1,h2,h3,h4,h5⟩
   ·obtain⟨us',M2,S2,hK2,hle2,hv2,hM2,_⟩:=gK [u] [v] S' M' _ hK (be.cons h4 (be.nil _ _)) h3
    cases us' with
    |nil=>exact hK2.elim
    |cons x r=>
     cases r with
     |cons _ _=>exact hK2.elim
     |nil=>
      obtain⟨y,ys,e,hy,_⟩:=hv2.cons_inv
      injection e with e1 _
      subst e1
      exact⟨v,x,M2,S2,ρ',w',hr,hK2,ag.le_trans h1 hle2,h2,hM2,hy,h5⟩
 |call c=>
  obtain⟨callee,args,tys⟩:=c
  cases callee with
  |value f=>
   have hcall:∀(g:FuncId) (caps:Array Value),a.eval f= .func (.func g) #[] caps->lf P g->(execOp a.eval ⟨dst, .call ⟨.value f,args,tys⟩,ty,ps,af,gd⟩).run P w= .ok (.enter g (args.map a.eval++caps)) w:=by
    intro g caps hf ⟨fn,h1,h2,h3⟩
    simp only[execOp,resolve,hf,Deferred.ofValue,Sem.run_bind,Sem.run_pure,Result.andThen_ok,invoke,Array.empty_append,callFunc,run_program,h1,h2,h3,Bool.false_eq_true,if_false]
   simp only[bh,List.map_cons] at hu
   cases us with
   |nil=>simp[be] at hu
   |cons u0 us=>
    obtain⟨v0,vs,e,hv0,hvs⟩:=hu.cons_inv
    injection e with e1 e2
    subst e1;subst e2
    simp only at h
    split at h
    ·rename_i g caps args' e
     injection e with e1 e2
     subst e1;subst e2
     obtain⟨cv,hf,hcv⟩:=hv0.fn_inv
     have harr:(args.map a.eval++cv)=((args.toList.map a.eval)++cv.toList).toArray:=by apply Array.ext';simp
     split at h
     ·rw[pW] at h
      have hpl:lf P g:=by rw[bT] at h;exact h.1
      unfold Oper.wp
      rw[hcall g cv hf hpl]
      simp only[Oper.upon]
      rw[bT] at h
      rw[harr]
      refine(h.2 S F ρ _ w hM (hvs.append hcv)).mono ?_
      rintro e w' ⟨v,u,M',S',ρ',rfl,hK,h1,h2,h3,h4,h5⟩
      exact⟨_,M',S',ρ',⟨u,hK,rfl⟩,h1,h2,h3,(hF.mono h1 h2).put _ h4,h5⟩
     ·rename_i r
      rw[pW] at h
      have hS:an P g (us++caps) M K:=by
       cases ho:fM r with
       |true=>
        rw[Ao ho] at h
        exact h
       |false=>
        cases hr:ca r with
        |true=>
         rw[jc hr] at h
         exact h.spec
        |false=>
         rw[jd hr ho,eQ] at h
         obtain⟨R,n,hspec,hp,_,hk⟩:=h
         exact an.of_pure (M:=M) (K:=K) (n:=n) hspec hp hk
      have hpl:lf P g:=by rw[bT] at hS;exact hS.1
      unfold Oper.wp
      rw[hcall g cv hf hpl]
      simp only[Oper.upon]
      rw[bT] at hS
      rw[harr]
      refine(hS.2 S F ρ _ w hM (hvs.append hcv)).mono ?_
      rintro e w' ⟨v,u,M',S',ρ',rfl,hK,h1,h2,h3,h4,h5⟩
      exact⟨_,M',S',ρ',⟨u,hK,rfl⟩,h1,h2,h3,(hF.mono h1 h2).put _ h4,h5⟩
    ·exact h.elim
  |invoke r m=>exact rs (iB hT hM a.eval _ hu) (ki draw tt _ _ _) h
  |builtin b=>
   cases b with
   |append=>
    have:bW P S F ρ w (Builtin.append_ tys.toList.toArray ty ((bh (.call ⟨.builtin .append,args,tys⟩)).map a.eval).toArray) K:=by
     cases draw with
     |none=>exact GP (P:=P) hT h hM hu fun h=>GX (P:=P) hT h hM hu fun hA=>wE (P:=P) (S:=S) (F:=F) (ρ:=ρ) (w:=w) (ty:=ty) hT (Aq hA) hM hu
     |some r=>exact wE (P:=P) (S:=S) (F:=F) (ρ:=ρ) (w:=w) (ty:=ty) hT (Aq h) hM hu
    refine fin (m:=Builtin.append_ tys.toList.toArray ty ((bh (.call ⟨.builtin .append,args,tys⟩)).map a.eval).toArray) ?_ this
    simp only[execOp,resolve,bh,Array.toArray_toList]
    have e:(args.toList.map a.eval).toArray=args.map a.eval:=by apply Array.ext';simp
    rw[e]
    rfl
   |copy=>
    cases draw with
    |some r=>exact rs (iB hT hM a.eval _ hu) (ki _ tt _ _ _) h
    |none=>
     have:=DR (P:=P) (S:=S) (F:=F) (ρ:=ρ) (w:=w) (ty:=ty) hT h hM hu
     refine fin (m:=Builtin.copy_ tys.toList.toArray ty ((bh (.call ⟨.builtin .copy,args,tys⟩)).map a.eval).toArray) ?_ this
     simp only[execOp,resolve,bh,Array.toArray_toList]
     have e:(args.toList.map a.eval).toArray=args.map a.eval:=by apply Array.ext';simp
     rw[e]
     rfl
   |_=>exact rs (iB hT hM a.eval _ hu) (ki draw tt _ _ _) h
 |_=>exact rs (iB hT hM a.eval _ hu) (ki draw tt _ _ _) h
def mE:List Oper->Nat->Option Tmp
 |[],_=>none
 |o::_,0=>o.dst
 |_::l,n+1=>mE l n
theorem wO:∀(l:List Oper) (n:Nat),mE l n=(l[n]?).bind (·.dst)
 |[],_=>by simp[mE]
 |_::_,0=>by simp[mE]
 |_::l,n+1=>by rw[mE,wO l n];simp
def IV (b want:Bool) (kt kf:Prop):Prop:=
 match b,want with
 |true,true=>kt
 |false,false=>kt
 |true,false=>kf
 |false,true=>kf
def kj (all:List Oper) (fr:List AV) (g:Option (Nat×Bool)) (kt kf:Prop):Prop:=
 match g with
 |none=>kt
 |some (j,want)=>match mE all j with
  |none=>False
  |some d=>uY fr d fun u=>match u with
   | .bool b=>IV b want kt kf
   | .tup _=>kf
   |_=>False
def bU (P:Program) (tt:TT) (draw:Option ba) (all:List Oper) (o:Oper) (fr:List AV) (M:ai) (K:List AV->ai->Prop):Prop:=
 kj all fr o.guard (y6 fr (bh o.op) fun us=>bz P tt draw o us M fun u M'=>wL fr o.dst u fun fr'=>K fr' M') (wL fr o.dst (.tup []) fun fr'=>K fr' M)
theorem tH {all:List Oper} {a:Act} {fr:List AV} {o:Oper} {kt kf:Prop} (h:kj all fr o.guard kt kf) (hF:ei S ρ a fr):
  if Region.wanted o (yielded all.toArray a.tmps) then kt else kf:=by
 unfold kj at h
 unfold Region.wanted
 cases hg:o.guard with
 |none=>rw[hg] at h;simpa using h
 |some p=>
  obtain⟨j,want⟩:=p
  rw[hg] at h
  simp only at h
  simp only[wO] at h
  split at h
  ·exact h.elim
  ·rename_i d hd
   rw[lZ] at h
   have hy:yielded all.toArray a.tmps j=match a.tmps[d]? with|some (.bool b)=>some b|_=>none:=by
    unfold yielded
    have:(all.toArray[j]?).bind (·.dst)=some d:=by simpa using hd
    rw[this]
    rfl
   have hr:∀u,fr.getD d .top=u->u≠ .top->∃v,a.tmps[d]? =some v/\RV S ρ v u:=by
    intro u hu hne
    by_cases hl:d<fr.length
    ·have hg:fr[d]? =some u:=by rw[<-hu];simp[List.getD,hl]
     obtain⟨v,hv,hr⟩:=hF.1.2 d u hg
     exact⟨v,by simpa using hv,hr⟩
    ·exact absurd (by rw[<-hu];simp[List.getD,hl]) hne
   split at h
   ·rename_i b hb
    obtain⟨v,hv,hvr⟩:=hr _ hb (by simp)
    rw[hv,hvr.bool_inv] at hy
    simp only at hy
    simp only[hy]
    cases b<;>cases want<;>simpa[IV] using h
   ·rename_i cs hb
    obtain⟨v,hv,hvr⟩:=hr _ hb (by simp)
    obtain⟨vs,rfl,_⟩:=hvr.tup_inv
    rw[hv] at hy
    simp only at hy
    simp only[hy]
    simpa using h
   ·exact h.elim
theorem gM (hT:aW P tt=true) {draw:Option ba} {all:List Oper} {o:Oper} {a:Act} {K:List AV->ai->Prop} {Q:Exit->Act->World->Prop} {fr:List AV} (h:bU P tt draw all o fr M K) (hM:ax S F ρ M w) (hF:ei S ρ a fr):
  if Region.wanted o (yielded all.toArray a.tmps) then o.wp P a w (cI S F ρ w K) Q else cI S F ρ w K (a.put o.dst undef) w:=by
 have:=tH h hF
 split
 ·rename_i hw
  rw[if_pos hw,fL] at this
  refine Oper.wp_mono (fun a' w' h'=>?_) (GY (Q:=Q) hT this hM hF (hF.evals _))
  exact h'.mono fun fr' M' ⟨u,hk,e⟩=>by rw[bN] at hk;rw[e];exact hk
 ·rename_i hw
  rw[if_neg hw,bN] at this
  exact⟨_,M,S,ρ,this,ag.le_refl _,aw.le_refl _,hM,hF.put _ (RV.tup_mk (be.nil _ _)),ce.refl _⟩
def fW (P:Program) (tt:TT) (draw:Option ba) (all:List Oper):List Oper->List AV->ai->(List AV->ai->Prop)->Prop
 |[],fr,M,K=>K fr M
 |o::r,fr,M,K=>bU P tt draw all o fr M fun fr' M'=>fW P tt draw all r fr' M' K
theorem u5 (hT:aW P tt=true) {all:List Oper} {K:List AV->ai->Prop} {Q:Exit->Act->World->Prop}:∀(l:List Oper) (S:ag) (ρ:aw) (w:World) (a:Act) (fr:List AV) (M:ai),fW P tt none all l fr M K->ax S F ρ M w->ei S ρ a fr->
  (∀a' w',cI S F ρ w K a' w'->Q .normal a' w')->wpList P all.toArray Q l a w
 |[],S,ρ,w,a,fr,M,h,hM,hF,hQ=>hQ _ _ ⟨fr,M,S,ρ,h,ag.le_refl _,aw.le_refl _,hM,hF,ce.refl _⟩
 |o::r,S,ρ,w,a,fr,M,h,hM,hF,hQ=>by
  have hs:=gM (Q:=Q) hT h hM hF
  unfold wpList
  have next:∀a' w',cI S F ρ w (fun fr' M'=>fW P tt none all r fr' M' K) a' w'->wpList P all.toArray Q r a' w':=by
   rintro a' w' ⟨fr',M',S',ρ',hk,h1,h2,h3,h4,h5⟩
   exact u5 hT r S' ρ' w' a' fr' M' hk h3 h4 fun a'' w'' h'=>hQ _ _ (h'.trans h1 h2 h5)
  split
  ·rename_i hw
   rw[if_pos hw] at hs
   exact .inl (Oper.wp_mono next hs)
  ·rename_i hw
   rw[if_neg hw] at hs
   exact next _ _ hs
end
end
section
def bC {X:Type 1} (T:(X->Prop)->Prop):Prop:=∃p:X->Prop,∀K,T K↔∃x,p x/\K x
theorem bC.false {X:Type 1}:bC (fun _:X->Prop=>False):=⟨fun _=>False,fun K=>by simp⟩
theorem bC.one {X:Type 1} (x:X):bC (fun K:X->Prop=>K x):=⟨fun y=>y=x,fun K=>by simp⟩
theorem bC.need {X:Type 1} (c:Prop) {T:(X->Prop)->Prop} (h:bC T):bC (fun K=>gJ c (T K)):=by
 obtain⟨p,hp⟩:=h
 refine⟨fun x=>c/\p x,fun K=>?_⟩
 simp only[bF]
 show c/\T K↔_
 rw[hp]
 exact⟨fun⟨hc,x,h1,h2⟩=>⟨x,⟨hc,h1⟩,h2⟩,fun⟨x,⟨hc,h1⟩,h2⟩=>⟨hc,x,h1,h2⟩⟩
theorem bC.bind {X Y:Type 1} {T:(Y->Prop)->Prop} {U:Y->(X->Prop)->Prop} (h:bC T) (hU:∀y,bC (U y)):bC (fun K=>T fun y=>U y K):=by
 obtain⟨p,hp⟩:=h
 refine⟨fun x=>∃y,p y/\Classical.choose (hU y) x,fun K=>?_⟩
 show T (fun y=>U y K)↔_
 refine(hp _).trans ?_
 constructor
 ·rintro⟨y,hy,hK⟩
  obtain⟨x,h1,h2⟩:=(Classical.choose_spec (hU y) K).1 hK
  exact⟨x,⟨y,hy,h1⟩,h2⟩
 ·rintro⟨x,⟨y,hy,h1⟩,h2⟩
  exact⟨y,hy,(Classical.choose_spec (hU y) K).2 ⟨x,h1,h2⟩⟩
theorem bC.congr {X:Type 1} {T T':(X->Prop)->Prop} (h:bC T) (e:∀K,T' K↔T K):bC T':=by
 obtain⟨p,hp⟩:=h
 exact⟨p,fun K=>(e K).trans (hp K)⟩
theorem bC.ex {X:Type 1} {I:Sort _} {T:I->(X->Prop)->Prop} (h:∀i,bC (T i)):bC (fun K=>∃i,T i K):=by
 refine⟨fun x=>∃i,Classical.choose (h i) x,fun K=>?_⟩
 constructor
 ·rintro⟨i,hK⟩
  obtain⟨x,h1,h2⟩:=(Classical.choose_spec (h i) K).1 hK
  exact⟨x,⟨i,h1⟩,h2⟩
 ·rintro⟨x,⟨i,h1⟩,h2⟩
  exact⟨i,(Classical.choose_spec (h i) K).2 ⟨x,h1,h2⟩⟩
theorem bC.and {X:Type 1} (c:Prop) {T:(X->Prop)->Prop} (h:bC T):bC (fun K=>c/\T K):=by
 obtain⟨p,hp⟩:=h
 refine⟨fun x=>c/\p x,fun K=>?_⟩
 show c/\T K↔_
 rw[hp]
 exact⟨fun⟨hc,x,h1,h2⟩=>⟨x,⟨hc,h1⟩,h2⟩,fun⟨x,⟨hc,h1⟩,h2⟩=>⟨hc,x,h1,h2⟩⟩
theorem bC.or {X:Type 1} {T U:(X->Prop)->Prop} (h:bC T) (h':bC U):bC (fun K=>T K\/U K):=by
 obtain⟨p,hp⟩:=h
 obtain⟨q,hq⟩:=h'
 refine⟨fun x=>p x\/q x,fun K=>?_⟩
 show T K\/U K↔_
 rw[hp,hq]
 constructor
 ·rintro(⟨x,a,b⟩|⟨x,a,b⟩)
  ·exact⟨x, .inl a,b⟩
  ·exact⟨x, .inr a,b⟩
 ·rintro⟨x,a|a,b⟩
  ·exact .inl ⟨x,a,b⟩
  ·exact .inr ⟨x,a,b⟩
theorem nv:∀(us:List AV) (M:ai),bC (fun K:List AV×ai->Prop=>dJ us M fun a b=>K (a,b))
 |[],M=>bC.one ([],M)
 |u::us,M=>by
  have key:∀(x:AV) (M':ai),bC (fun K:List AV×ai->Prop=>dJ us M' fun us' M''=>K (x::us',M'')):=fun x M'=>
   (bC.bind (nv us M') (fun y:List AV×ai=>bC.one (x::y.1,y.2))).congr fun K=>Iff.rfl
  simp only[dJ]
  split
  ·rename_i ℓ n sz
   split
   ·exact key _ _
   ·exact key _ _
   ·exact bC.false
  ·exact key _ _
theorem qM:∀(css:List (List AV)) (M:ai),bC (fun K:List (List AV)×ai->Prop=>ju css M fun a b=>K (a,b))
 |[],M=>bC.one ([],M)
 |cs::r,M=>by
  simp only[ju]
  refine(bC.bind (nv cs M) (U:=fun y K=>ju r y.2 fun r' M''=>K (y.1::r',M'')) (fun y=>?_)).congr fun K=>Iff.rfl
  exact(bC.bind (qM r y.2) (fun z:List (List AV)×ai=>bC.one (y.1::z.1,z.2))).congr fun K=>Iff.rfl
theorem oK (tt:TT) (t:TypeId) (us:List AV) (M:ai):bC (fun K:ai->Prop=>er tt t us M K):=by
 unfold er
 split
 ·split
  ·split
   ·split
    ·split
     ·split
      ·simp only[dV];exact bC.one _
      ·exact bC.false
     ·exact bC.false
    ·rename_i ℓ j o
     refine(bC.bind (nv _ M) (U:=fun y (K:ai->Prop)=>match y.2 ℓ with
      |some (.row rt d enc l)=>match cg y.1,Nat.ble (o+y.1.length) (enc (l.getD j d)).length with
       |true,true=>pT enc (l.getD j d) o y.1 fun a'=>K (y.2.set ℓ (.row rt d enc (l.set j a')))
       |_,_=>False
      |_=>False) (fun y=>?_)).congr fun K=>Iff.rfl
     split
     ·split
      ·simp only[fv]
       exact bC.ex fun a'=>bC.and _ (bC.one _)
      ·exact bC.false
     ·exact bC.false
    ·exact bC.false
   ·exact bC.false
  ·exact bC.false
 ·exact bC.false
theorem BS (tt:TT) (t:TypeId) (dst:Option Tmp) (M:ai):bC (fun K:AV×ai->Prop=>jt tt t dst M fun a b=>K (a,b)):=by
 unfold jt
 split
 ·split
  ·simp only[dV];exact bC.one (_,_)
  ·exact bC.false
 ·exact bC.false
theorem GZ (t:TypeId) (us:List AV) (dst:Option Tmp) (M:ai):bC (fun K:AV×ai->Prop=>DJ t us dst M fun a b=>K (a,b)):=by
 unfold DJ
 split
 ·split
  ·exact(bC.or (bC.and _ (bC.one (_,_))) (bC.one (_,_))).congr fun K=>⟨fun h=>h.out,fun h=>⟨h⟩⟩
  ·exact bC.false
 ·exact bC.false
theorem DY (tt:TT) (t:TypeId) (us:List AV) (dst:Option Tmp) (M:ai):bC (fun K:AV×ai->Prop=>mA tt t us dst M fun a b=>K (a,b)):=by
 unfold mA
 split
 ·split
  ·split
   ·simp only[kc]
    exact bC.and _ (bC.ex fun α=>bC.ex fun d=>bC.ex fun enc=>bC.ex fun z=>bC.and _ (bC.one (_,_)))
   ·exact bC.false
  ·exact bC.false
 ·exact bC.false
theorem BT (tt:TT) (t:TypeId) (len:Nat) (is:List Nat) (us:List AV) (dst:Option Tmp) (M:ai):bC (fun K:AV×ai->Prop=>eY tt t len is us dst M fun a b=>K (a,b)):=by
 unfold eY
 split
 ·rename_i d _ _ e _ _
  split
  ·rename_i i _
   split
   ·refine(bC.bind (qM _ M) (U:=fun y (K:AV×ai->Prop)=>match y.2 d with
      |none=>match jH y.1 with
       |true=>match nh y.1 with
        |some ns=>K (.row d len i.size,y.2.set d (.row e (0:Int) aD ns))
        |none=>GN y.1 fun _ dd enc l=>K (.row d len i.size,y.2.set d (.row e dd enc l))
       |false=>False
      |some _=>False) (fun y=>?_)).congr fun K=>Iff.rfl
    split
    ·split
     ·split
      ·exact bC.one (_,_)
      ·simp only[jG]
       exact bC.ex fun α=>bC.ex fun d=>bC.ex fun enc=>bC.ex fun z=>bC.and _ (bC.one (_,_))
     ·exact bC.false
    ·exact bC.false
   ·exact bC.false
  ·exact bC.false
 ·exact bC.false
theorem G0 (tt:TT) (d:Nat) (e:TypeId) (i:TI) (s x:AV) (M:ai) (β:Type) (dd':β) (enc':β->List AV) (l':List β):bC (fun K:AV×ai->Prop=>match Nat.beq (enc' (l'.getD 0 dd')).length i.size with
  |true=>match s with
   | .nilsl=>gJ (l'.length*i.bytes<=140737488355328) (K (.row d l'.length i.size,M.set d (.row e dd' enc' l')))
   | .slc dd enc l=>match Nat.beq (enc (l.getD 0 dd)).length i.size with
    |true=>gJ (0<l'.length) (wy enc l enc' l' i.bytes fun l''=>K (.row d (l.length+l'.length) i.size,M.set d (.row e dd enc (l++l''))))
    |false=>False
   | .row ℓ n sz=>match M ℓ,Nat.beq sz i.size with
    |some (.row e' dd enc l),true=>match Nat.beq e' e,(match x with| .row ℓ' _ _=>!(Nat.beq ℓ ℓ')|_=>true) with
     |true,true=>wy enc l enc' l' i.bytes fun l''=>K (.row d (n+l'.length) i.size,(M.set ℓ .dead).set d (.row e dd enc (l++l'')))
     |_,_=>False
    |_,_=>False
   |_=>False
  |false=>False):=by
 split
 ·split
  ·exact bC.need _ (bC.one (_,_))
  ·split
   ·simp only[iE]
    exact bC.need _ (bC.and _ (bC.ex fun l''=>bC.and _ (bC.one (_,_))))
   ·exact bC.false
  ·split
   ·split
    ·simp only[iE]
     exact bC.and _ (bC.ex fun l''=>bC.and _ (bC.one (_,_)))
    ·exact bC.false
   ·exact bC.false
  ·exact bC.false
 ·exact bC.false
theorem G2 (x:AV) (M:ai) {X:Type 1} {U:(α:Type)->α->(α->List AV)->List α->(X->Prop)->Prop} (h:∀α d enc l,bC (U α d enc l)):bC (fun K:X->Prop=>sT x M fun α d enc l=>U α d enc l K):=by
 unfold sT
 split
 ·exact h _ _ _ _
 ·split
  ·exact h _ _ _ _
  ·exact h _ _ _ _
  ·exact bC.false
 ·exact h _ _ _ _
 ·exact bC.false
theorem y9 (tt:TT) (ts:List TypeId) (us:List AV) (dst:Option Tmp) (M:ai):bC (fun K:AV×ai->Prop=>fH tt ts us dst M fun a b=>K (a,b)):=by
 unfold fH
 split
 ·split
  ·split
   ·split
    ·exact bC.false
    ·exact G2 _ M fun α d enc l=>G0 tt _ _ _ _ _ M α d enc l
   ·exact bC.false
  ·exact bC.false
 ·exact bC.false
theorem wP (tt:TT) (ts:List TypeId) (us:List AV) (dst:Option Tmp) (M:ai):bC (fun K:AV×ai->Prop=>la tt ts us dst M fun a b=>K (a,b)):=by
 unfold la
 split
 ·split
  ·split
   ·split
    ·simp only[kc]
     exact bC.and _ (bC.ex fun α=>bC.ex fun d=>bC.ex fun enc=>bC.ex fun z=>bC.and _ (bC.one (_,_)))
    ·exact bC.false
   ·exact bC.false
  ·exact bC.false
 ·exact bC.false
theorem qN (tt:TT) (ts:List TypeId) (us:List AV) (dst:Option Tmp) (M:ai):bC (fun K:AV×ai->Prop=>kM tt ts us dst M fun a b=>K (a,b)):=by
 unfold kM
 split
 ·exact wP tt ts _ dst M
 ·exact y9 tt ts us dst M
theorem BU (tt:TT) (t:TypeId) (us:List AV) (dst:Option Tmp) (M:ai):bC (fun K:AV×ai->Prop=>qB tt t us dst M fun a b=>K (a,b)):=by
 unfold qB
 split
 ·split
  ·exact bC.one (_,_)
  ·exact bC.false
 ·exact bC.false
theorem DZ (str:Bool) (us:List AV) (M:ai):bC (fun K:AV×ai->Prop=>wz str us M fun a b=>K (a,b)):=by
 unfold wz
 split
 ·split
  ·rename_i s pos _
   simp only[tx]
   by_cases h:pos<s.size
   ·exact(bC.one (_,_)).congr fun K=>⟨fun hh=>hh.1 h,fun hh=>⟨fun _=>hh,fun hn=>absurd h hn⟩⟩
   ·exact(bC.one (_,_)).congr fun K=>⟨fun hh=>hh.2 h,fun hh=>⟨fun hp=>absurd hp h,fun _=>hh⟩⟩
  ·exact bC.false
 ·exact bC.false
def cls:Op->Nat
 | .load _ _=>1
 | .store _ _ _| .alloc _| .box _ _| .makeSlice _ _ _| .buildSlice _ _ _| .range _ _| .next _ _=>3
 | .call c=>match c.callee with
  | .value _=>2
  | .builtin .append=>3
  |_=>0
 |_=>0
variable {P:Program} {tt:TT}
theorem oL {o:Oper} (h:cls o.op=0\/cls o.op=1) (r:ba) (us:List AV) (M:ai) (K:AV->ai->Prop):bz P tt (some r) o us M K=fZ (kg (some r) tt o.op us M) fun u=>K u M:=by
 unfold bz
 cases ho:o.op with
 |store _ _ _=>rw[ho] at h;simp[cls] at h
 |alloc _=>rw[ho] at h;simp[cls] at h
 |box _ _=>rw[ho] at h;simp[cls] at h
 |range _ _=>rw[ho] at h;simp[cls] at h
 |next _ _=>rw[ho] at h;simp[cls] at h
 |makeSlice _ _ _=>rw[ho] at h;simp[cls] at h
 |buildSlice _ _ _=>rw[ho] at h;simp[cls] at h
 |call c=>
  obtain⟨callee,args,tys⟩:=c
  cases callee with
  |value f=>rw[ho] at h;simp[cls] at h
  |invoke _ _=>rfl
  |builtin b=>cases b<;>first|rfl|(rw[ho] at h;simp[cls] at h)
 |_=>rfl
theorem D1 {op:Op} (h:cls op=0) (us:List AV) (M M':ai):pR tt op us M=pR tt op us M':=by
 cases op<;>first|rfl|simp[cls] at h
def ig (r:ba) (op:Op):Nat:=
 match r,op with
 | .pers, .load _ _=>0
 | .fresh, .load _ _=>0
 | .boxes as, .load _ x=>match gY as x with
  |none=>0
  |some _=>1
 |_,op=>cls op
theorem Ar (r:ba) {op:Op} (h:ig r op=0) (us:List AV) (M M':ai):kg (some r) tt op us M=kg (some r) tt op us M':=by
 cases r with
 |any=>exact D1 h us M M'
 |flat=>exact D1 h us M M'
 |own=>exact D1 h us M M'
 |boxes as=>
  unfold kg
  cases op with
  |load t x=>
   simp only[ig] at h⊢
   cases hs:gY as x with
   |some l=>rw[hs] at h;cases h
   |none=>rfl
  |_=>rfl
 |fresh=>
  unfold kg
  cases op<;>rfl
 |rows=>
  unfold kg
  cases op<;>first|rfl|simp[ig,cls] at h
 |pers=>
  unfold kg
  cases op<;>rfl
theorem jx {r:ba} {op:Op} (h:ig r op=0):cls op=0\/cls op=1:=by
 cases r<;>cases op<;>first|exact .inl h|exact .inr rfl
theorem gR {r:ba} {op:Op} {n:Nat} (h:ig r op=n+1):cls op=n+1:=by
 cases r with
 |boxes as=>
  cases op with
  |load t x=>
   simp only[ig] at h
   split at h
   ·cases h
   ·exact h
  |_=>exact h
 |_=>cases op<;>first|exact h|(simp[ig] at h)
theorem za (draw:Option ba) (tt:TT) (t:TypeId) (p:Operand) (us:List AV) (M:ai):bC (fun K:ai->Prop=>eu draw tt t p us M K):=by
 unfold eu
 split
 ·split
  ·split
   ·split
    ·exact oK tt t _ M
    ·exact bC.false
   ·exact bC.false
  ·exact bC.false
 ·split
  ·split
   ·exact oK tt t _ M
   ·exact bC.false
  ·exact bC.false
 ·exact oK tt t us M
theorem u6 {o:Oper} (h:cls o.op=3) (r:ba) (us:List AV) (M:ai):bC (fun K:AV×ai->Prop=>bz P tt (some r) o us M fun a b=>K (a,b)):=by
 unfold bz
 cases ho:o.op with
 |store t p _=>exact(bC.bind (za (some r) tt t p us M) (fun m=>bC.one (.tup [],m))).congr fun K=>Iff.rfl
 |alloc t=>exact BS tt t o.dst M
 |range t _=>exact BU tt t us o.dst M
 |next _ str=>exact DZ str us M
 |box t _=>exact GZ t us o.dst M
 |makeSlice t _ _=>exact DY tt t us o.dst M
 |buildSlice t len ps=>
  have leak:∀r:ba,bC (fun K:AV×ai->Prop=>eY tt t len (ps.toList.map (·.1)) us o.dst M (tF (some r) fun a b=>K (a,b))):=by
   intro r
   refine(bC.bind (BT tt t len _ us o.dst M) (U:=fun z K=>pq z.1 z.2 fun a b=>K (a,b)) (fun z=>?_)).congr fun K=>Iff.rfl
   simp only[BQ]
   refine bC.or (bC.one (z.1,z.2)) ?_
   refine(bC.bind (nv [z.1] z.2) (U:=fun y K=>match y.1 with|[x]=>K (x,y.2)|_=>False) (fun y=>?_)).congr fun K=>Iff.rfl
   split
   ·exact bC.one (_,_)
   ·exact bC.false
  unfold oJ
  simp only
  split
  ·split
   ·exact leak r
   ·exact bC.false
  ·exact leak r
 |call c=>
  obtain⟨callee,args,tys⟩:=c
  cases callee with
  |value f=>rw[ho] at h;simp[cls] at h
  |invoke _ _=>rw[ho] at h;simp[cls] at h
  |builtin b=>
   have app:bC (fun K:AV×ai->Prop=>y8 (some r) tt args.toList tys.toList us o.dst M fun a b=>K (a,b)):=by
    unfold y8
    split
    ·split
     ·split
      ·exact qN tt _ _ o.dst M
      ·exact bC.false
     ·exact qN tt _ us o.dst M
    ·exact qN tt _ us o.dst M
   cases b<;>first|exact app|(rw[ho] at h;simp[cls] at h)
 |_=>rw[ho] at h;simp[cls] at h
end
section
def gv (all:List Oper) (fr:List AV):Option (Nat×Bool)->Option Bool
 |none=>some true
 |some (j,want)=>match mE all j with
  |none=>none
  |some d=>match fr.getD d .top with
   | .bool b=>some (b==want)
   | .tup _=>some false
   |_=>none
def lh:List Operand->List Nat
 |[]=>[]
 | .tmp t::r=>t::lh r
 |_::r=>lh r
def km (all:List Oper) (o:Oper):List Nat:=
 lh (bh o.op)++(match o.guard with|some (j,_)=>(mE all j).toList|none=>[])
def zb (all:List Oper) (x y:Oper):Bool:=
 (match x.dst with|some d=>!(km all y).contains d&&!(decide (y.dst=some d))|none=>true)&&(match y.dst with|some d=>!(km all x).contains d|none=>true)
def je:Op->Bool
 | .store _ _ _=>true
 |_=>false
def qO:ba->Bool
 | .rows=>true
 |_=>false
def Au:Op->Bool
 | .alloc _=>true
 |_=>false
def G3 (tt:TT) (r:ba):Op->Bool
 | .alloc _=>true
 | .makeSlice _ _ _=>true
 | .buildSlice t _ _=>match y7 r with|true=>true|false=>u4 tt t
 | .call c=>match c.callee with
  | .builtin .append=>ca r&&wN c.args.toList
  |_=>false
 |_=>false
def mN (tt:TT) (r:ba) (x y:Op):Bool:=G3 tt r y&&(match ig r x with
 |0=>true
 |1=>true
 |2=>ca r||Au y
 |_=>G3 tt r x)
def D2 (r:ba) (op:Op):Option Nat:=
 match r with
 | .boxes as=>match op with
  | .load _ x=>gY as x
  | .store _ x _=>gY as x
  |_=>none
 |_=>none
def BV (r:ba) (x y:Op):Bool:=
 match D2 r x,D2 r y with
 |some a,some b=>!(Nat.beq a b)
 |_,_=>false
def pX (op:Op):Bool:=Nat.beq (cls op) 2
def pr (tt:TT) (r:ba) (all:List Oper) (x y:Oper):Bool:=
 zb all x y&&!(fM r&&(pX x.op||pX y.op))&&(mN tt r x.op y.op||(match ig r x.op,ig r y.op with
  |0,_=>true
  |_,0=>true
  |1,1=>true
  |1,2=>true
  |2,1=>true
  |_,_=>false)||(qO r&&(decide (cls x.op=1)&&je y.op||je x.op&&decide (cls y.op=1)))||BV r x.op y.op)
section
variable {P:Program} {tt:TT} {all:List Oper} {r:ba}
theorem bQ (draw:Option ba) (o:Oper) (fr:List AV) (M:ai) (K:List AV->ai->Prop):bU P tt draw all o fr M K↔(match gv all fr o.guard with
  |some true=>bz P tt draw o ((bh o.op).map (dA fr)) M fun u M'=>K (cC fr o.dst u) M'
  |some false=>K (cC fr o.dst (.tup [])) M
  |none=>False):=by
 unfold bU kj gv
 cases o.guard with
 |none=>simp only[fL,bN]
 |some p=>
  obtain⟨j,want⟩:=p
  simp only
  cases mE all j with
  |none=>exact Iff.rfl
  |some d=>
   simp only[lZ,fL,bN]
   cases fr.getD d .top with
   |bool b=>cases b<;>cases want<;>exact Iff.rfl
   |_=>exact Iff.rfl
theorem li {fr:List AV} {d t:Nat} (h:d≠t) (u:AV):(fr.set d u).getD t .top=fr.getD t .top:=by
 simp[List.getD,List.getElem?_set_ne h]
theorem lj {fr:List AV} {d:Nat} (u:AV):∀(xs:List Operand),d∉lh xs->xs.map (dA (fr.set d u))=xs.map (dA fr)
 |[],_=>rfl
 |x::xs,h=>by
  cases x with
  |tmp t=>
   simp only[lh,List.mem_cons,not_or] at h
   simp only[List.map_cons,lj u xs h.2,dA,li h.1]
  |const v=>simp only[lh] at h;simp only[List.map_cons,lj u xs h];rfl
  |func f=>simp only[lh] at h;simp only[List.map_cons,lj u xs h];rfl
  |global g=>simp only[lh] at h;simp only[List.map_cons,lj u xs h];rfl
theorem jJ {o:Oper} {fr:List AV} {dd:Option Tmp} (h:∀d,dd=some d->d∉km all o) (u:AV):
  (bh o.op).map (dA (cC fr dd u))=(bh o.op).map (dA fr)/\gv all (cC fr dd u) o.guard=gv all fr o.guard:=by
 cases dd with
 |none=>exact⟨rfl,rfl⟩
 |some d=>
  have hd:=h d rfl
  simp only[km,List.mem_append,not_or] at hd
  refine⟨lj u _ hd.1,?_⟩
  unfold gv
  cases hg:o.guard with
  |none=>rfl
  |some p=>
   obtain⟨j,want⟩:=p
   rw[hg] at hd
   simp only at hd⊢
   cases hj:mE all j with
   |none=>rfl
   |some d'=>
    rw[hj] at hd
    have:d≠d':=by simpa using hd.2
    simp only[cC,li this]
theorem BW {fr:List AV} {x y:Option Tmp} (h:∀d,x=some d->y≠some d) (u v:AV):cC (cC fr x u) y v=cC (cC fr y v) x u:=by
 cases x with
 |none=>rfl
 |some d=>
  cases y with
  |none=>rfl
  |some e=>
   have:d≠e:=fun he=>h d rfl (by rw[he])
   simp only[cC]
   rw[List.set_comm u v this]
theorem zc {x y:Oper} (h:zb all x y=true):(∀d,x.dst=some d->d∉km all y)/\(∀d,x.dst=some d->y.dst≠some d)/\(∀d,y.dst=some d->d∉km all x):=by
 unfold zb at h
 rw[Bool.and_eq_true] at h
 refine⟨fun d hd=>?_,fun d hd=>?_,fun d hd=>?_⟩
 ·have:=h.1;rw[hd] at this;simp at this;exact this.1
 ·have:=h.1;rw[hd] at this;simp at this;exact this.2
 ·have:=h.2;rw[hd] at this;simpa using this
theorem pu {o:Oper} {dd:Option Tmp} (h1:∀d,dd=some d->d∉km all o) (h2:∀d,dd=some d->o.dst≠some d) (draw:Option ba) (fr:List AV) (u:AV) (M:ai) (K:List AV->ai->Prop):
  bU P tt draw all o (cC fr dd u) M K↔bU P tt draw all o fr M fun fr' M'=>K (cC fr' dd u) M':=by
 rw[bQ,bQ]
 obtain⟨e1,e2⟩:=jJ (fr:=fr) h1 u
 rw[e1,e2]
 have e3:∀v,cC (cC fr dd u) o.dst v=cC (cC fr o.dst v) dd u:=fun v=>BW h2 u v
 simp only[e3]
theorem JR {r:Rs} {x y:AV} (hx:fZ r (fun u=>u=x)) (hy:fZ r (fun u=>u=y)):x=y:=by
 cases r with
 |no=>exact hx.elim
 |val u=>simp only[fZ,aP] at*;rw[<-hx,<-hy]
 |need c u=>simp only[fZ,aP] at*;simp only[bF] at*;rw[<-hx.2,<-hy.2]
 |arith c k n=>simp only[fZ] at*;simp only[dz] at*;rw[<-hx.2,<-hy.2]
 |cmp p i=>simp only[fZ] at*;simp only[iC] at*;rw[<-hx,<-hy]
theorem qP {o:Oper} (h:cls o.op=2) (us:List AV):(∀M K,bz P tt (some r) o us M K=False)\/∃f l,∀M K,bz P tt (some r) o us M K=wM r P f l M K:=by
 unfold bz
 cases ho:o.op with
 |call c=>
  obtain⟨callee,args,tys⟩:=c
  cases callee with
  |value f=>
   simp only
   cases us with
   |nil=>exact .inl fun M K=>rfl
   |cons u us=>
    cases u with
    |fn f caps=>exact .inr ⟨f,us++caps,fun M K=>by simp only[pW]⟩
    |_=>exact .inl fun M K=>rfl
  |invoke _ _=>rw[ho] at h;simp[cls] at h
  |builtin b=>rw[ho] at h;cases b<;>simp[cls] at h
 |_=>rw[ho] at h;simp[cls] at h
theorem l7 (op:Op):cls op=0\/cls op=1\/cls op=2\/cls op=3:=by
 cases op<;>first|(left;rfl)|(right;left;rfl)|(right;right;right;rfl)|skip
 rename_i c
 obtain⟨callee,args,tys⟩:=c
 cases callee with
 |value f=>right;right;left;rfl
 |invoke _ _=>left;rfl
 |builtin b=>cases b<;>first|(left;rfl)|(right;right;right;rfl)
theorem qQ {t:TypeId} {p:Operand} {us:List AV} {M:ai} {K:ai->Prop} (h:eu (some .rows) tt t p us M K):∃ℓ rt,∃(α:Type) (d:α) (enc:α->List AV) (l l':List α),M ℓ=some (.row rt d enc l)/\K (M.set ℓ (.row rt d enc l'))/\∀K':ai->Prop,K' (M.set ℓ (.row rt d enc l'))->eu (some .rows) tt t p us M K':=by
 have leak:∀(cs:List AV) (M:ai) (K:List AV->ai->Prop),cg cs=true->dJ cs M K=K cs M:=by
  intro cs
  induction cs with
  |nil=>intro M K _;rfl
  |cons u us ih=>
   intro M K hp
   simp only[cg] at hp
   split at hp
   ·rename_i hu
    cases u with
    |row a b c=>simp[nf] at hu
    |_=>simp only[dJ];rw[ih _ _ hp]
   ·cases hp
 unfold eu at h
 simp only at h
 split at h
 ·rename_i ℓ j o x
  split at h
  ·rename_i cs hcs
   split at h
   ·rename_i hp
    unfold er at h
    simp only[hcs] at h
    split at h
    ·rename_i cs0 i e ht
     cases e
     split at h
     ·rename_i hsz
      rw[leak cs M _ hp] at h
      split at h
      ·rename_i rt α d enc l hl
       split at h
       ·rename_i hp2 hle
        rw[fv] at h
        obtain⟨a',ha,hK⟩:=h
        refine⟨ℓ,rt,α,d,enc,l,l.set j a',hl,hK,fun K' hK'=>?_⟩
        unfold eu
        simp only[hcs,hp]
        unfold er
        simp only[hcs,ht,hsz]
        rw[leak cs M _ hp,hl]
        simp only[hp,hle]
        rw[fv]
        exact⟨a',ha,hK'⟩
       ·exact h.elim
      ·exact h.elim
     ·exact h.elim
    ·exact h.elim
   ·exact h.elim
  ·exact h.elim
 ·exact h.elim
theorem Av {t:TypeId} {p:Operand} {us:List AV} {M:ai} {ℓ:Nat} {rt:TypeId} {α:Type} {d:α} {enc:α->List AV} {l l':List α} (hl:M ℓ=some (.row rt d enc l)):
  kg (some .rows) tt (.load t p) us (M.set ℓ (.row rt d enc l'))=kg (some .rows) tt (.load t p) us M:=by
 simp only[kg]
 split
 ·rfl
 ·rename_i x hx
  unfold gb
  split
  ·rfl
  ·rename_i ℓ' o
   by_cases e:ℓ'=ℓ
   ·subst e;rw[ai.set_eq,hl]
   ·rw[ai.set_ne _ _ e]
  ·rename_i ℓ' i o
   exact absurd rfl (hx ℓ' i o)
  ·rfl
 ·rfl
theorem iI {M M1:ai} (he:∀ℓ B,M ℓ=some B->M1 ℓ=some B) {t:TypeId} {x:AV} {k:AV->Prop} (h:fZ (gb tt t M x) k):gb tt t M1 x=gb tt t M x:=by
 unfold gb at h⊢
 cases x with
 |ptr ℓ o=>
  simp only at h⊢
  cases hM:M ℓ with
  |none=>rw[hM] at h;exact h.elim
  |some B=>rw[he ℓ B hM]
 |rel ℓ i o=>
  simp only at h⊢
  cases hM:M ℓ with
  |none=>rw[hM] at h;exact h.elim
  |some B=>rw[he ℓ B hM]
 |_=>rfl
theorem G4 {M M1:ai} (he:∀ℓ B,M ℓ=some B->M1 ℓ=some B) {op:Op} {us:List AV} {k:AV->Prop} (h:fZ (kg (some r) tt op us M) k):kg (some r) tt op us M1=kg (some r) tt op us M:=by
 cases r with
 |any=>
  have h:fZ (pR tt op us M) k:=h
  show pR tt op us M1=pR tt op us M
  cases op with
  |load t x=>
   cases us with
   |nil=>rfl
   |cons a l=>
    cases l with
    |nil=>exact iI he h
    |cons _ _=>rfl
  |_=>rfl
 |flat=>
  have h:fZ (pR tt op us M) k:=h
  show pR tt op us M1=pR tt op us M
  cases op with
  |load t x=>
   cases us with
   |nil=>rfl
   |cons a l=>
    cases l with
    |nil=>exact iI he h
    |cons _ _=>rfl
  |_=>rfl
 |own=>
  have h:fZ (pR tt op us M) k:=h
  show pR tt op us M1=pR tt op us M
  cases op with
  |load t x=>
   cases us with
   |nil=>rfl
   |cons a l=>
    cases l with
    |nil=>exact iI he h
    |cons _ _=>rfl
  |_=>rfl
 |rows=>
  cases op with
  |load t x=>
   cases us with
   |nil=>rfl
   |cons a l=>
    cases l with
    |nil=>
     cases a with
     |rel _ _ _=>rfl
     |_=>simp only[kg] at h⊢;exact iI he h
    |cons _ _=>simp only[kg]
  |_=>rfl
 |pers=>cases op<;>rfl
 |fresh=>cases op<;>rfl
 |boxes as=>
  cases op with
  |load t x=>
   simp only[kg] at h⊢
   cases hs:gY as x with
   |none=>rfl
   |some l=>
    rw[hs] at h
    simp only at h⊢
    cases us with
    |nil=>rfl
    |cons a l=>
     cases l with
     |nil=>
      cases hb:tE as x a with
      |true=>
       simp only[hb] at h⊢
       exact iI he h
      |false=>simp only[hb]
     |cons _ _=>rfl
  |_=>rfl
theorem oM {t:TypeId} {dst:Option Tmp} {M:ai} {K:AV->ai->Prop} (h:jt tt t dst M K):∃d i,dst=some d/\tt.find t=some i/\M d=none/\K (.ptr d 0) (M.set d (.box t (i.zero.map db))):=by
 unfold jt at h
 split at h
 ·rename_i d i ht
  split at h
  ·rename_i hd
   rw[dV] at h
   exact⟨d,i,rfl,ht,hd,h⟩
  ·exact h.elim
 ·exact h.elim
theorem wQ {t:TypeId} {dst:Option Tmp} {M:ai} {K:AV->ai->Prop} {d:Nat} {i:TI} (h1:dst=some d) (h2:tt.find t=some i) (h3:M d=none) (hk:K (.ptr d 0) (M.set d (.box t (i.zero.map db)))):jt tt t dst M K:=by
 subst h1
 unfold jt
 simp only[h2,h3,dV]
 exact hk
def G5 (T:ai->(AV->ai->Prop)->Prop) (M:ai) (K:AV->ai->Prop):Prop:=∃d v B,M d=none/\K v (M.set d B)/\∀(M':ai) (K':AV->ai->Prop),M' d=none->K' v (M'.set d B)->T M' K'
theorem D3 {t:TypeId} {us:List AV} {dst:Option Tmp} {M:ai} {K:AV->ai->Prop} (h:mA tt t us dst M K):G5 (fun M K=>mA tt t us dst M K) M K:=by
 unfold mA at h
 split at h
 ·rename_i d n c _ _ e _ ht
  split at h
  ·rename_i i hd hi
   split at h
   ·rename_i m hz hb
    rw[kc] at h
    obtain⟨h1,α,dd,enc,z,h2,hk⟩:=h
    refine⟨d,_,_,hd,hk,fun M' K' hd' hk'=>?_⟩
    unfold mA
    simp only[ht,hd',hi,hz,hb]
    rw[kc]
    rw[hb] at h1
    exact⟨h1,α,dd,enc,z,h2,hk'⟩
   ·exact h.elim
  ·exact h.elim
 ·exact h.elim
theorem tJ:∀{cs:List AV},Ap cs=true->∀u∈cs,BR u=true
 |[],_,u,hu=>by cases hu
 |c::cs,h,u,hu=>by
  simp only[Ap] at h
  split at h
  ·rename_i hc
   rcases List.mem_cons.1 hu with e|hu
   ·rw[e];exact hc
   ·exact tJ h u hu
  ·cases h
theorem qR:∀(cs:List AV) (M:ai) (K:List AV->ai->Prop),(∀u∈cs,BR u=true)->dJ cs M K=K cs M
 |[],_,_,_=>rfl
 |u::us,M,K,h=>by
  have hu:=h u (List.mem_cons_self ..)
  cases u with
  |row a b c=>cases hu
  |_=>simp only[dJ];rw[qR us _ _ fun x hx=>h x (List.mem_cons_of_mem _ hx)]
theorem jf:∀(css:List (List AV)) (M:ai) (K:List (List AV)->ai->Prop),(∀cs∈css,∀u∈cs,BR u=true)->ju css M K=K css M
 |[],_,_,_=>rfl
 |cs::r,M,K,h=>by
  simp only[ju]
  rw[qR cs M _ (h cs (List.mem_cons_self ..)),jf r M _ fun x hx=>h x (List.mem_cons_of_mem _ hx)]
theorem wR {u:AV} {cs:List AV} (hu:IU u=true) (h1:bP u=some cs):∀x∈cs,BR x=true:=by
 cases u with
 |agg l=>simp only[bP,Option.some.injEq] at h1;subst h1;exact tJ hu
 |row a b c=>cases hu
 |top=>cases h1
 |tup l=>cases h1
 |val v=>
  simp only[bP] at h1
  split at h1
  ·simp only[Option.some.injEq] at h1;subst h1;intro x hx;rw[List.mem_singleton] at hx;subst hx;rfl
  ·cases h1
 |_=>simp only[bP,Option.some.injEq] at h1;subst h1;intro x hx;rw[List.mem_singleton] at hx;subst hx;rfl
theorem gy {n:Nat}:∀{us:List AV} {css:List (List AV)},l6 us=true->fc n us=some css->∀cs∈css,∀u∈cs,BR u=true
 |[],css,_,h=>by
  simp only[fc,Option.some.injEq] at h
  subst h
  intro cs hcs
  cases hcs
 |u::us,css,hf,h=>by
  simp only[l6] at hf
  split at hf
  ·rename_i hu
   simp only[fc] at h
   split at h
   ·rename_i cs0 r0 h1 h2
    split at h
    ·simp only[Option.some.injEq] at h
     subst h
     intro cs hcs
     rcases List.mem_cons.1 hcs with e|hcs
     ·subst e
      exact wR hu h1
     ·exact gy hf h2 cs hcs
    ·cases h
   ·cases h
  ·cases hf
theorem set_set (M:ai) (d:Nat) (B C:aX):(M.set d B).set d C=M.set d C:=by
 funext x
 by_cases e:x=d
 ·subst e;rw[ai.set_eq,ai.set_eq]
 ·rw[ai.set_ne _ _ e,ai.set_ne _ _ e,ai.set_ne _ _ e]
theorem wS {d:Nat} {n sz:Nat} {t:TypeId} {α:Type} {dd:α} {enc:α->List AV} {l:List α} {M:ai} {K:AV->ai->Prop} (h:pq (.row d n sz) (M.set d (.row t dd enc l)) K):
  ∃v B,K v (M.set d B)/\∀(M':ai) (K':AV->ai->Prop),K' v (M'.set d B)->pq (.row d n sz) (M'.set d (.row t dd enc l)) K':=by
 rcases h.out with h|h
 ·exact⟨_,_,h,fun M' K' hk=>iH hk⟩
 ·simp only[dJ,ai.set_eq,set_set] at h
  refine⟨_,_,h,fun M' K' hk=>ew ?_⟩
  simp only[dJ,ai.set_eq,set_set]
  exact hk
theorem BX {t:TypeId} {len:Nat} {is:List Nat} {us:List AV} {dst:Option Tmp} {M:ai} {K:AV->ai->Prop} (hf:l6 us=true) (h:eY tt t len is us dst M (tF (some r) K)):G5 (fun M K=>eY tt t len is us dst M (tF (some r) K)) M K:=by
 unfold eY at h
 split at h
 ·rename_i d _ _ e _ ht
  split at h
  ·rename_i i hi
   split at h
   ·rename_i css0 c1 c2 c3 c4
    rw[jf css0 M _ (gy hf c4)] at h
    split at h
    ·rename_i hd
     split at h
     ·rename_i hp
      split at h
      ·rename_i ns hn
       obtain⟨v,B,hk,back⟩:=wS h
       refine⟨d,v,B,hd,hk,fun M' K' hd' hk'=>?_⟩
       unfold eY
       simp only[ht,hi,c1,c2,c3,c4]
       rw[jf css0 M' _ (gy hf c4)]
       simp only[hd',hp,hn]
       exact back M' K' hk'
      ·rename_i hn
       rw[jG] at h
       obtain⟨α,dd,enc,l,h1,h⟩:=h
       obtain⟨v,B,hk,back⟩:=wS h
       refine⟨d,v,B,hd,hk,fun M' K' hd' hk'=>?_⟩
       unfold eY
       simp only[ht,hi,c1,c2,c3,c4]
       rw[jf css0 M' _ (gy hf c4)]
       simp only[hd',hp,hn]
       rw[jG]
       exact⟨α,dd,enc,l,h1,back M' K' hk'⟩
     ·exact h.elim
    ·exact h.elim
   ·exact h.elim
  ·exact h.elim
 ·exact h.elim
theorem D4 {ts:List TypeId} {α:Type} {dd:α} {enc:α->List AV} {l:List α} {dst:Option Tmp} {M:ai} {K:AV->ai->Prop} (h:kM tt ts [.nilsl, .sl dd enc l] dst M K):G5 (fun M K=>kM tt ts [.nilsl, .sl dd enc l] dst M K) M K:=by
 unfold kM at h
 simp only at h
 unfold fH at h
 split at h
 ·rename_i d t t' s x e
  simp only[List.cons.injEq,and_true] at e
  obtain⟨e1,e2⟩:=e
  subst e1;subst e2
  split at h
  ·rename_i _ _ e _ ht ht' hd
   split at h
   ·rename_i i hi
    split at h
    ·exact h.elim
    ·rename_i m hb
     simp only[sT] at h
     split at h
     ·rename_i hsz
      rw[bF] at h
      obtain⟨h1,hk⟩:=h
      refine⟨d,_,_,hd,hk,fun M' K' hd' hk'=>?_⟩
      unfold kM
      simp only
      unfold fH
      simp only[ht,ht',hd',hi,sT,hsz]
      split
      ·rename_i hb0;rw[hb] at hb0;cases hb0
      ·rw[bF];exact⟨h1,hk'⟩
     ·exact h.elim
   ·exact h.elim
  ·exact h.elim
 ·exact h.elim
theorem u7 {o:Oper} (hm:G3 tt r o.op=true) {us:List AV} {M:ai} {K:AV->ai->Prop} (h:bz P tt (some r) o us M K):G5 (fun M K=>bz P tt (some r) o us M K) M K:=by
 unfold bz at h⊢
 cases ho:o.op with
 |alloc t=>
  rw[ho] at h
  simp only at h⊢
  obtain⟨d,i,h1,h2,h3,hk⟩:=oM h
  exact⟨d,_,_,h3,hk,fun M' K' hd' hk'=>wQ h1 h2 hd' hk'⟩
 |makeSlice t x y=>
  rw[ho] at h
  simp only at h⊢
  exact D3 h
 |buildSlice t len ps=>
  rw[ho] at h hm
  have hs:(match y7 r with|true=>true|false=>u4 tt t)=true:=hm
  simp only[oJ,hs] at h⊢
  cases hf:l6 us with
  |true=>
   rw[hf] at h
   exact BX hf h
  |false=>rw[hf] at h;exact h.elim
 |call c=>
  rw[ho] at h hm
  obtain⟨callee,args,tys⟩:=c
  cases callee with
  |builtin b=>
   cases b with
   |append=>
    simp only[G3,Bool.and_eq_true] at hm
    have hr:r= .fresh:=by cases r<;>first|rfl|(exact absurd hm.1 (by simp[ca]))
    subst hr
    simp only[y8,hm.2] at h⊢
    split at h
    ·exact D4 h
    ·exact h.elim
   |_=>cases hm
  |_=>cases hm
 |_=>rw[ho] at hm;cases hm
theorem tK {as:List (Nat×Nat)} {x:Operand} {a:AV} (h:tE as x a=true):∃ℓ o,a= .ptr ℓ o/\gY as x=some ℓ:=by
 cases a with
 |ptr ℓ o=>
  simp only[tE] at h
  cases hs:gY as x with
  |none=>rw[hs] at h;cases h
  |some ℓ'=>
   rw[hs] at h
   exact⟨ℓ,o,rfl,by rw[Nat.eq_of_beq_eq_true h]⟩
 |_=>cases h
theorem nw {as:List (Nat×Nat)} {t:TypeId} {p:Operand} {us:List AV} {M:ai} {K:ai->Prop} (h:eu (some (.boxes as)) tt t p us M K):∃ℓ B,gY as p=some ℓ/\K (M.set ℓ B)/\∀(M':ai) (K':ai->Prop),M' ℓ=M ℓ->K' (M'.set ℓ B)->eu (some (.boxes as)) tt t p us M' K':=by
 unfold eu at h
 simp only at h
 split at h
 ·rename_i a x
  split at h
  ·rename_i hb
   obtain⟨ℓ,o,rfl,hs⟩:=tK hb
   unfold er at h
   simp only at h
   split at h
   ·rename_i cs i hcs ht
    split at h
    ·rename_i hsz
     split at h
     ·rename_i bt cells hM
      split at h
      ·rename_i h1 h2
       rw[dV] at h
       refine⟨ℓ,_,hs,h,fun M' K' hM' hK'=>?_⟩
       unfold eu
       simp only[hb]
       unfold er
       simp only[hcs,ht,hsz,hM',hM,h1,h2]
       rw[dV]
       exact hK'
      ·exact h.elim
     ·exact h.elim
    ·exact h.elim
   ·exact h.elim
  ·exact h.elim
 ·exact h.elim
theorem wT {as:List (Nat×Nat)} {t:TypeId} {x:Operand} {us:List AV} {M:ai} {ℓ ℓ':Nat} {B:aX} (hs:gY as x=some ℓ') (hne:ℓ'≠ℓ):kg (some (.boxes as)) tt (.load t x) us (M.set ℓ B)=kg (some (.boxes as)) tt (.load t x) us M:=by
 simp only[kg,hs]
 cases us with
 |nil=>rfl
 |cons a l=>
  cases l with
  |cons _ _=>rfl
  |nil=>
   simp only
   cases hb:tE as x a with
   |false=>rfl
   |true=>
    obtain⟨k,o,rfl,hk⟩:=tK hb
    rw[hs] at hk
    cases hk
    show gb tt t (M.set ℓ B) (.ptr ℓ' o)=gb tt t M (.ptr ℓ' o)
    unfold gb
    simp only
    rw[ai.set_ne _ _ hne]
theorem D5 {x y:Oper} (ho:fM r=true->cls x.op≠2/\cls y.op≠2) (hc:(mN tt r x.op y.op||(match ig r x.op,ig r y.op with
  |0,_=>true
  |_,0=>true
  |1,1=>true
  |1,2=>true
  |2,1=>true
  |_,_=>false)||(qO r&&(decide (cls x.op=1)&&je y.op||je x.op&&decide (cls y.op=1)))||BV r x.op y.op)=true) (ux uy:List AV) (M:ai) (K:AV->AV->ai->Prop)
  (h:bz P tt (some r) x ux M fun u M1=>bz P tt (some r) y uy M1 fun v M2=>K u v M2):bz P tt (some r) y uy M fun v M2=>bz P tt (some r) x ux M2 fun u M1=>K u v M1:=by
 have rx:cls x.op=0\/cls x.op=1->∀M K,bz P tt (some r) x ux M K=fZ (kg (some r) tt x.op ux M) fun u=>K u M:=fun h M K=>oL h r ux M K
 have ry:cls y.op=0\/cls y.op=1->∀M K,bz P tt (some r) y uy M K=fZ (kg (some r) tt y.op uy M) fun u=>K u M:=fun h M K=>oL h r uy M K
 have RR:(cls x.op=0\/cls x.op=1)->(cls y.op=0\/cls y.op=1)->bz P tt (some r) y uy M fun v M2=>bz P tt (some r) x ux M2 fun u M1=>K u v M1:=by
  intro hx hy
  rw[rx hx] at h
  rw[ry hy]
  obtain⟨u,hu,h⟩:=gc h
  rw[ry hy] at h
  obtain⟨v,hv,h⟩:=gc h
  refine cM hv fun v' e=>?_
  subst e
  rw[rx hx]
  refine cM hu fun u' e=>?_
  subst e
  exact h
 have fresh0:∀op,ca r=true->(cls op=0\/cls op=1)->ig r op=0:=by
  intro op hr h
  have hr:r= .fresh:=by cases r<;>first|rfl|cases hr
  subst hr
  cases op with
  |load t p=>rfl
  |call c=>
   rcases h with h|h
   ·exact h
   ·obtain⟨callee,args,tys⟩:=c
    cases callee with
    |builtin b=>cases b<;>simp[cls] at h
    |_=>simp[cls] at h
  |_=>first|rfl|(rcases h with h|h<;>simp[cls] at h)
 have RC:(cls x.op=0\/cls x.op=1)->cls y.op=2->bz P tt (some r) y uy M fun v M2=>bz P tt (some r) x ux M2 fun u M1=>K u v M1:=by
  intro hx hy
  rw[rx hx] at h
  obtain⟨u,hu,h⟩:=gc h
  rcases qP (P:=P) (tt:=tt) (r:=r) hy uy with hf|⟨f,l,hf⟩
  ·rw[hf] at h;exact h.elim
  ·rw[hf] at h⊢
   by_cases hr:ca r=true
   ·rw[jc hr] at h⊢
    refine h.mono fun v M1 hk=>?_
    rw[rx hx,Ar r (fresh0 _ hr hx) ux M1 M]
    refine cM hu fun u' e=>?_
    subst e
    exact hk
   have hr:ca r=false:=by cases hh:ca r<;>first|rfl|exact absurd hh hr
   have hro:fM r=false:=by cases hh:fM r<;>first|rfl|exact absurd hy (ho hh).2
   rw[jd hr hro] at h⊢
   simp only[eQ] at*
   obtain⟨R,n,h1,h2,h3,h4⟩:=h
   refine⟨R,n,h1,h2,h3,fun v hv=>?_⟩
   show bz P tt (some r) x ux M fun u M1=>K u v M1
   rw[rx hx]
   refine cM hu fun u' e=>?_
   subst e
   exact h4 v hv
 have CR:cls x.op=2->(cls y.op=0\/cls y.op=1)->bz P tt (some r) y uy M fun v M2=>bz P tt (some r) x ux M2 fun u M1=>K u v M1:=by
  intro hx hy
  rw[ry hy]
  rcases qP (P:=P) (tt:=tt) (r:=r) hx ux with hf|⟨f,l,hf⟩
  ·rw[hf] at h;exact h.elim
  ·rw[hf] at h
   by_cases hr:ca r=true
   ·rw[jc hr] at h
    obtain⟨R,n,lb,L2,u',hs,ha,hb,hf2,hr2,hk⟩:=h.out
    rw[ry hy,Ar r (fresh0 _ hr hy) uy _ M] at hk
    obtain⟨v,hv,hk⟩:=gc hk
    refine cM hv fun v' e=>?_
    subst e
    rw[hf,jc hr]
    exact⟨R,n,lb,L2,u',hs,ha,hb,hf2,hr2,hk⟩
   have hr:ca r=false:=by cases hh:ca r<;>first|rfl|exact absurd hh hr
   have hro:fM r=false:=by cases hh:fM r<;>first|rfl|exact absurd hx (ho hh).1
   rw[jd hr hro] at h
   rw[eQ] at h
   obtain⟨R,n,h1,h2,⟨u0,hu0⟩,h4⟩:=h
   have h0:bz P tt (some r) y uy M fun v M2=>K u0 v M2:=h4 u0 hu0
   rw[ry hy] at h0
   obtain⟨v,hv,_⟩:=gc h0
   refine cM hv fun v' e=>?_
   subst e
   rw[hf,jd hr hro]
   rw[eQ]
   refine⟨R,n,h1,h2,⟨u0,hu0⟩,fun u hu=>?_⟩
   have h5:bz P tt (some r) y uy M fun v M2=>K u v M2:=h4 u hu
   rw[ry hy] at h5
   obtain⟨v2,hv2,h6⟩:=gc h5
   rw[JR hv hv2]
   exact h6
 have NX:ig r x.op=0->cls y.op=3->bz P tt (some r) y uy M fun v M2=>bz P tt (some r) x ux M2 fun u M1=>K u v M1:=by
  intro hx hy
  rw[rx (jx hx)] at h
  obtain⟨u,hu,h⟩:=gc h
  obtain⟨p,hp⟩:=u6 (P:=P) (tt:=tt) hy r uy M
  obtain⟨⟨v,M2⟩,h1,h2⟩:=(hp fun z=>K u z.1 z.2).1 h
  refine(hp fun z=>bz P tt (some r) x ux z.2 fun u M1=>K u z.1 M1).2 ⟨(v,M2),h1,?_⟩
  show bz P tt (some r) x ux M2 fun u M1=>K u v M1
  rw[rx (jx hx),Ar r hx ux M2 M]
  refine cM hu fun u' e=>?_
  subst e
  exact h2
 have XN:cls x.op=3->ig r y.op=0->bz P tt (some r) y uy M fun v M2=>bz P tt (some r) x ux M2 fun u M1=>K u v M1:=by
  intro hx hy
  obtain⟨p,hp⟩:=u6 (P:=P) (tt:=tt) hx r ux M
  obtain⟨⟨u,M1⟩,h1,h2⟩:=(hp fun z=>bz P tt (some r) y uy z.2 fun v M2=>K z.1 v M2).1 h
  simp only at h2
  rw[ry (jx hy),Ar r hy uy M1 M] at h2
  obtain⟨v,hv,h2⟩:=gc h2
  rw[ry (jx hy)]
  refine cM hv fun v' e=>?_
  subst e
  exact(hp fun z=>K z.1 v' z.2).2 ⟨(u,M1),h1,h2⟩
 have LS:cls x.op=1->je y.op=true->qO r=true->bz P tt (some r) y uy M fun v M2=>bz P tt (some r) x ux M2 fun u M1=>K u v M1:=by
  intro hx hy hr
  have hr:r= .rows:=by cases r<;>first|rfl|cases hr
  subst hr
  rw[rx (.inr hx)] at h
  obtain⟨u,hu,h⟩:=gc h
  obtain⟨t,p,hop⟩:∃t p,x.op= .load t p:=by
   cases hox:x.op with
   |load t p=>exact⟨t,p,rfl⟩
   |call c=>
    rw[hox] at hx
    obtain⟨callee,args,tys⟩:=c
    cases callee with
    |builtin b=>cases b<;>simp[cls] at hx
    |_=>simp[cls] at hx
   |_=>rw[hox] at hx;simp[cls] at hx
  cases hoy:y.op with
  |store t2 p2 q2=>
   simp only[bz,hoy] at h⊢
   obtain⟨ℓ,rt,α,d,enc,l,l',hl,hK,hback⟩:=qQ h
   refine hback _ ?_
   have:=rx (.inr hx) (M.set ℓ (.row rt d enc l')) (fun u M1=>K u (.tup []) M1)
   unfold bz at this
   rw[this,hop,Av hl,<-hop]
   refine cM hu fun u' e=>?_
   subst e
   exact hK
  |_=>rw[hoy] at hy;cases hy
 have SL:je x.op=true->cls y.op=1->qO r=true->bz P tt (some r) y uy M fun v M2=>bz P tt (some r) x ux M2 fun u M1=>K u v M1:=by
  intro hx hy hr
  have hr:r= .rows:=by cases r<;>first|rfl|cases hr
  subst hr
  rw[ry (.inr hy)]
  obtain⟨t,p,hop⟩:∃t p,y.op= .load t p:=by
   cases hox:y.op with
   |load t p=>exact⟨t,p,rfl⟩
   |call c=>
    rw[hox] at hy
    obtain⟨callee,args,tys⟩:=c
    cases callee with
    |builtin b=>cases b<;>simp[cls] at hy
    |_=>simp[cls] at hy
   |_=>rw[hox] at hy;simp[cls] at hy
  cases hoy:x.op with
  |store t2 p2 q2=>
   have h2:eu (some .rows) tt t2 p2 ux M fun M1=>bz P tt (some .rows) y uy M1 fun v M2=>K (.tup []) v M2:=by
    have:=h
    unfold bz at this
    rw[hoy] at this
    exact this
   obtain⟨ℓ,rt,α,d,enc,l,l',hl,hK,hback⟩:=qQ h2
   rw[ry (.inr hy),hop,Av hl,<-hop] at hK
   refine cM hK fun v hv=>?_
   unfold bz
   rw[hoy]
   exact hback _ hv
  |_=>rw[hoy] at hx;cases hx
 have AL:mN tt r x.op y.op=true->bz P tt (some r) y uy M fun v M2=>bz P tt (some r) x ux M2 fun u M1=>K u v M1:=by
  intro hb
  unfold mN at hb
  rw[Bool.and_eq_true] at hb
  obtain⟨hy,hx⟩:=hb
  have ext:∀{d:Nat} {B:aX},M d=none->∀ℓ C,M ℓ=some C->(M.set d B) ℓ=some C:=by
   intro d B hd ℓ C hC
   rw[ai.set_ne _ _ (fun e=>by rw[e,hd] at hC;cases hC)]
   exact hC
  have rd:cls x.op=0\/cls x.op=1->bz P tt (some r) y uy M fun v M2=>bz P tt (some r) x ux M2 fun u M1=>K u v M1:=by
   intro hcx
   rw[rx hcx] at h
   obtain⟨u,hu,h⟩:=gc h
   obtain⟨d,v,B,h3,hk,back⟩:=u7 hy h
   refine back M _ h3 ?_
   rw[rx hcx,G4 (ext h3) hu]
   refine cM hu fun u' e=>?_
   subst e
   exact hk
  rcases l7 x.op with hcx|hcx|hcx|hcx
  ·exact rd (.inl hcx)
  ·exact rd (.inr hcx)
  ·have hcm:ig r x.op=2:=by
    cases r<;>cases hox:x.op<;>first|(rw[hox] at hcx;exact hcx)|(rw[hox] at hcx;simp[cls] at hcx)
   rw[hcm] at hx
   rcases qP (P:=P) (tt:=tt) (r:=r) hcx ux with hf|⟨f,l,hf⟩
   ·rw[hf] at h;exact h.elim
   ·rw[hf] at h
    by_cases hr:ca r=true
    ·rw[jc hr] at h
     obtain⟨R,n,lb,L2,u',hs,ha,hb,hf2,hr2,h0⟩:=h.out
     obtain⟨d,v,B,h3,hk,back⟩:=u7 hy h0
     have h4:kN P f l M fun u M1=>M1 d=none/\K u v (M1.set d B):=⟨R,n,lb,L2,u',hs,ha,hb,hf2,hr2,h3,hk⟩
     obtain⟨hd,h5⟩:=h4.beside (K:=fun u M'=>K u v M')
     refine back M _ hd ?_
     rw[hf,jc hr]
     exact h5
    have hr:ca r=false:=by cases hh:ca r<;>first|rfl|exact absurd hh hr
    have hro:fM r=false:=by cases hh:fM r<;>first|rfl|exact absurd hcx (ho hh).1
    have hya:Au y.op=true:=by simpa[hr] using hx
    obtain⟨t,hoy⟩:∃t,y.op= .alloc t:=by
     cases hoy:y.op with
     |alloc t=>exact⟨t,rfl⟩
     |_=>rw[hoy] at hya;cases hya
    have ey:∀M K,bz P tt (some r) y uy M K=jt tt t y.dst M K:=by
     intro M K
     unfold bz
     rw[hoy]
    rw[ey]
    rw[jd hr hro,eQ] at h
    obtain⟨R,n,h1,h2,⟨u0,hu0⟩,h4⟩:=h
    have h5:=h4 u0 hu0
    rw[ey] at h5
    obtain⟨d,i,e1,e2,e3,_⟩:=oM h5
    refine wQ e1 e2 e3 ?_
    rw[hf,jd hr hro,eQ]
    refine⟨R,n,h1,h2,⟨u0,hu0⟩,fun u hu=>?_⟩
    have h6:=h4 u hu
    rw[ey] at h6
    obtain⟨d',i',e1',e2',e3',hk⟩:=oM h6
    rw[e1] at e1';cases e1'
    rw[e2] at e2';cases e2'
    exact hk
  ·have hcm:ig r x.op=3:=by
    cases r<;>cases hox:x.op<;>first|(rw[hox] at hcx;exact hcx)|(rw[hox] at hcx;simp[cls] at hcx)
   rw[hcm] at hx
   obtain⟨d',v',B',f3,h,back'⟩:=u7 hx h
   obtain⟨d,v,B,e3,hk,back⟩:=u7 hy h
   have hne:d≠d':=fun e=>by subst e;rw[ai.set_eq] at e3;cases e3
   rw[ai.set_ne _ _ hne] at e3
   refine back M _ e3 (back' (M.set d B) _ (by rw[ai.set_ne _ _ (Ne.symm hne)];exact f3) ?_)
   rw[ai.set_comm _ _ _ hne]
   exact hk
 by_cases hbx:BV r x.op y.op=true
 ·cases r with
  |boxes as=>
   simp only[BV,D2] at hbx
   cases hox:x.op with
   |load t1 p1=>
    cases hoy:y.op with
    |load t2 p2=>exact RR (by rw[hox];exact .inr rfl) (by rw[hoy];exact .inr rfl)
    |store t2 p2 q2=>
     rw[hox,hoy] at hbx
     simp only at hbx
     cases h1:gY as p1 with
     |none=>rw[h1] at hbx;cases hbx
     |some l1=>
      rw[rx (by rw[hox];exact .inr rfl)] at h
      obtain⟨u,hu,h⟩:=gc h
      simp only[bz,hoy] at h⊢
      obtain⟨l2,B,h2,hk,back⟩:=nw h
      rw[h1,h2] at hbx
      have hne:l1≠l2:=fun e=>by subst e;simp at hbx
      refine back M _ rfl ?_
      have e:=rx (by rw[hox];exact .inr rfl) (M.set l2 B) (fun u M1=>K u (.tup []) M1)
      unfold bz at e
      rw[e,hox,wT h1 hne,<-hox]
      refine cM hu fun u' e=>?_
      subst e
      exact hk
    |_=>exfalso;rw[hox,hoy] at hbx;simp only at hbx;cases hq:gY as p1<;>rw[hq] at hbx<;>cases hbx
   |store t1 p1 q1=>
    cases hoy:y.op with
    |load t2 p2=>
     rw[hox,hoy] at hbx
     simp only at hbx
     have h':eu (some (.boxes as)) tt t1 p1 ux M fun M1=>bz P tt (some (.boxes as)) y uy M1 fun v M2=>K (.tup []) v M2:=by
      have:=h
      unfold bz at this
      rw[hox] at this
      exact this
     obtain⟨l1,B,h1,hk,back⟩:=nw h'
     cases h2:gY as p2 with
     |none=>rw[h1,h2] at hbx;cases hbx
     |some l2=>
      rw[h1,h2] at hbx
      have hne:l2≠l1:=fun e=>by subst e;simp at hbx
      rw[ry (by rw[hoy];exact .inr rfl),hoy,wT h2 hne,<-hoy] at hk
      rw[ry (by rw[hoy];exact .inr rfl)]
      refine cM hk fun v hv=>?_
      unfold bz
      rw[hox]
      exact back M _ rfl hv
    |store t2 p2 q2=>
     rw[hox,hoy] at hbx
     simp only at hbx
     have h':eu (some (.boxes as)) tt t1 p1 ux M fun M1=>eu (some (.boxes as)) tt t2 p2 uy M1 fun M2=>K (.tup []) (.tup []) M2:=by
      have:=h
      unfold bz at this
      rw[hox,hoy] at this
      exact this
     obtain⟨l1,B1,h1,hk,back1⟩:=nw h'
     obtain⟨l2,B2,h2,hk2,back2⟩:=nw hk
     rw[h1,h2] at hbx
     have hne:l1≠l2:=fun e=>by subst e;simp at hbx
     unfold bz
     rw[hoy]
     simp only
     refine back2 M _ (by rw[ai.set_ne _ _ (Ne.symm hne)]) ?_
     rw[hox]
     simp only
     refine back1 _ _ (by rw[ai.set_ne _ _ hne]) ?_
     rw[ai.set_comm _ _ _ (Ne.symm hne)]
     exact hk2
    |_=>exfalso;rw[hox,hoy] at hbx;simp only at hbx;cases hq:gY as p1<;>rw[hq] at hbx<;>cases hbx
   |_=>exfalso;rw[hox] at hbx;simp only at hbx;cases hbx
  |_=>cases hbx
 have hbx:BV r x.op y.op=false:=by cases hh:BV r x.op y.op<;>first|rfl|exact absurd hh hbx
 rw[hbx,Bool.or_false] at hc
 by_cases hal:mN tt r x.op y.op=true
 ·exact AL hal
 have hal:mN tt r x.op y.op=false:=by cases hh:mN tt r x.op y.op<;>first|rfl|exact absurd hh hal
 rw[hal,Bool.false_or] at hc
 by_cases hsp:(qO r&&(decide (cls x.op=1)&&je y.op||je x.op&&decide (cls y.op=1)))=true
 ·simp only[Bool.and_eq_true,Bool.or_eq_true,decide_eq_true_eq] at hsp
  rcases hsp.2 with h2|h2
  ·exact LS h2.1 h2.2 hsp.1
  ·exact SL h2.1 h2.2 hsp.1
 replace hc:(match ig r x.op,ig r y.op with
  |0,_=>true
  |_,0=>true
  |1,1=>true
  |1,2=>true
  |2,1=>true
  |_,_=>false)=true:=by
  rw[Bool.or_eq_true] at hc
  exact hc.resolve_right hsp
 have cc:∀op,ig r op=0\/ig r op=1\/ig r op=2\/ig r op=3:=by
  intro op
  have:=l7 op
  cases r with
  |boxes as=>
   cases op with
   |load t x=>
    simp only[ig]
    cases gY as x with
    |none=>exact .inl rfl
    |some _=>exact .inr (.inl rfl)
   |_=>exact this
  |_=>cases op<;>first|exact .inl rfl|exact this
 rcases cc x.op with hx|hx|hx|hx<;>rcases cc y.op with hy|hy|hy|hy<;>
  first
   |exact RR (jx hx) (jx hy)
   |exact RR (jx hx) (.inr (gR hy))
   |exact RR (.inr (gR hx)) (jx hy)
   |exact RR (.inr (gR hx)) (.inr (gR hy))
   |exact RC (jx hx) (gR hy)
   |exact RC (.inr (gR hx)) (gR hy)
   |exact CR (gR hx) (jx hy)
   |exact CR (gR hx) (.inr (gR hy))
   |exact NX hx (gR hy)
   |exact XN (gR hx) hy
   |(rw[hx,hy] at hc;simp at hc)
theorem qS {o:Oper} (hno:fM r=true->cls o.op≠2) (us:List AV) (M:ai) (h:bz P tt (some r) o us M fun _ _=>False):False:=by
 rcases l7 o.op with hc|hc|hc|hc
 ·rw[oL (.inl hc)] at h;obtain⟨_,_,h⟩:=gc h;exact h
 ·rw[oL (.inr hc)] at h;obtain⟨_,_,h⟩:=gc h;exact h
 ·rcases qP (P:=P) (tt:=tt) (r:=r) hc us with hf|⟨f,l,hf⟩
  ·rw[hf] at h;exact h
  ·rw[hf] at h
   by_cases hr:ca r=true
   ·rw[jc hr] at h
    obtain⟨R,n,lb,L2,u',hs,ha,hb,hf2,hr2,hk⟩:=h.out
    exact hk
   have hr:ca r=false:=by cases hh:ca r<;>first|rfl|exact absurd hh hr
   have hro:fM r=false:=by cases hh:fM r<;>first|rfl|exact absurd hc (hno hh)
   rw[jd hr hro] at h
   rw[eQ] at h
   obtain⟨R,n,h1,h2,⟨u0,hu0⟩,h4⟩:=h
   exact h4 u0 hu0
 ·obtain⟨p,hp⟩:=u6 (P:=P) (tt:=tt) hc r us M
  obtain⟨_,_,h⟩:=(hp fun _=>False).1 h
  exact h
theorem iq {o:Oper} {us:List AV} {M:ai} {K K':AV->ai->Prop} (h:bz P tt (some r) o us M K) (hk:∀u M',K u M'->K' u M'):bz P tt (some r) o us M K':=by
 rcases l7 o.op with hc|hc|hc|hc
 ·rw[oL (.inl hc)] at*;exact cM h fun u=>hk u M
 ·rw[oL (.inr hc)] at*;exact cM h fun u=>hk u M
 ·rcases qP (P:=P) (tt:=tt) (r:=r) hc us with hf|⟨f,l,hf⟩
  ·rw[hf] at h;exact h.elim
  ·rw[hf] at*
   by_cases hr:ca r=true
   ·rw[jc hr] at h⊢
    exact h.mono hk
   have hr:ca r=false:=by cases hh:ca r<;>first|rfl|exact absurd hh hr
   by_cases hro:fM r=true
   ·rw[Ao hro] at h⊢
    exact h.mono hk
   have hro:fM r=false:=by cases hh:fM r<;>first|rfl|exact absurd hh hro
   rw[jd hr hro] at h⊢
   simp only[eQ] at*
   obtain⟨R,n,h1,h2,h3,h4⟩:=h
   exact⟨R,n,h1,h2,h3,fun u hu=>hk u M (h4 u hu)⟩
 ·obtain⟨p,hp⟩:=u6 (P:=P) (tt:=tt) hc r us M
  obtain⟨z,h1,h2⟩:=(hp fun z=>K z.1 z.2).1 h
  exact(hp fun z=>K' z.1 z.2).2 ⟨z,h1,hk _ _ h2⟩
theorem dc {o:Oper} {fr:List AV} {M:ai} {K K':List AV->ai->Prop} (h:bU P tt (some r) all o fr M K) (hk:∀f M',K f M'->K' f M'):bU P tt (some r) all o fr M K':=by
 rw[bQ] at*
 split at h
 ·exact iq h fun u M'=>hk _ _
 ·exact hk _ _ h
 ·exact h
theorem qT {x y:Oper} (hc:pr tt r all x y=true) (ho:fM r=true):cls x.op≠2/\cls y.op≠2:=by
 unfold pr at hc
 rw[Bool.and_eq_true,Bool.and_eq_true] at hc
 have h:=hc.1.2
 rw[ho] at h
 constructor
 ·intro e
  unfold pX at h
  rw[e] at h
  simp at h
 ·intro e
  unfold pX at h
  rw[e] at h
  simp at h
theorem tL {x y:Oper} (hc:pr tt r all x y=true) (fr:List AV) (M:ai) (K:List AV->ai->Prop)
  (h:bU P tt (some r) all x fr M fun fr1 M1=>bU P tt (some r) all y fr1 M1 K):bU P tt (some r) all y fr M fun fr2 M2=>bU P tt (some r) all x fr2 M2 K:=by
 have hno:=qT hc
 unfold pr at hc
 rw[Bool.and_eq_true,Bool.and_eq_true] at hc
 obtain⟨⟨hap,_⟩,hcl⟩:=hc
 obtain⟨a1,a2,a3⟩:=zc hap
 have a4:∀d,y.dst=some d->x.dst≠some d:=fun d hd he=>a2 d he hd
 rw[bQ] at h
 cases hgx:gv all fr x.guard with
 |none=>rw[hgx] at h;exact h.elim
 |some bx=>
  rw[hgx] at h
  cases bx with
  |false=>
   simp only at h
   rw[pu a1 a2] at h
   refine(?_:bU P tt (some r) all y fr M fun fr2 M2=>bU P tt (some r) all x fr2 M2 K)
   rw[bQ] at h⊢
   split at h
   ·refine iq h fun v M' hv=>?_
    rw[bQ,(jJ (fr:=fr) a3 v).2,hgx]
    exact hv
   ·rw[bQ,(jJ (fr:=fr) a3 _).2,hgx]
    exact h
   ·exact h
  |true=>
   simp only at h
   have h':bz P tt (some r) x ((bh x.op).map (dA fr)) M fun u M1=>bU P tt (some r) all y fr M1 fun fr2 M2=>K (cC fr2 x.dst u) M2:=
    iq h fun u M1 hh=>(pu a1 a2 (some r) fr u M1 K).1 hh
   rw[bQ]
   have hx:∀v M2 K,bU P tt (some r) all x (cC fr y.dst v) M2 K↔bz P tt (some r) x ((bh x.op).map (dA fr)) M2 fun u M1=>K (cC (cC fr y.dst v) x.dst u) M1:=by
    intro v M2 K
    rw[bQ,(jJ (fr:=fr) a3 v).2,hgx,(jJ (fr:=fr) a3 v).1]
   cases hgy:gv all fr y.guard with
   |none=>
    exfalso
    refine qS (fun hh=>(hno hh).1) _ _ (iq h' fun u M1 hh=>?_)
    rw[bQ,hgy] at hh
    exact hh
   |some bb=>
    cases bb with
    |false=>
     simp only
     rw[hx]
     refine iq h' fun u M1 hh=>?_
     rw[bQ,hgy] at hh
     exact hh
    |true=>
     simp only
     simp only[hx]
     refine D5 (x:=x) (y:=y) hno hcl _ _ M (fun u v M'=>K (cC (cC fr y.dst v) x.dst u) M') (iq h' fun u M1 hh=>?_)
     rw[bQ,hgy] at hh
     exact hh
end
end
section
def tM:Nat->List Oper->Nat->Nat->Bool
 |0,_,_,_=>false
 |n+1,all,i,j=>match all[j]? with
  |some o=>o.after.toList.any fun e=>Region.binds .any e&&(decide (e.on=i)||tM n all i e.on)
  |none=>false
def qU:List Oper->Nat->Bool
 |[],_=>true
 |o::r,k=>o.after.toList.all (fun e=>!(Region.binds .any e)||decide (e.on<k))&&qU r (k+1)
def f6 (tt:TT) (r:ba) (all:List Oper):Bool:=
 qU all 0&&(List.range all.length).all fun i=>(List.range all.length).all fun j=>decide (j<=i)||
  (match all[i]?,all[j]? with|some x,some y=>pr tt r all x y|_,_=>false)||tM all.length all i j
section
variable {P:Program} {tt:TT} {all:List Oper} {K:List AV->ai->Prop} {r:ba}
theorem oN:∀(l:List Oper) (k:Nat),qU l k=true->∀(i:Nat) o,l[i]? =some o->∀e∈o.after,Region.binds .any e=true->e.on<k+i
 |[],_,_,i,o,h=>by simp at h
 |x::r,k,h,i,o,hi=>by
  simp only[qU,Bool.and_eq_true] at h
  intro e he hb
  cases i with
  |zero=>
   simp at hi;subst hi
   have:=List.all_eq_true.1 h.1 e (by simpa using he)
   rw[hb] at this
   simpa using this
  |succ i=>
   have:=oN r (k+1) h.2 i o (by simpa using hi) e he hb
   omega
def JS (P:Program) (tt:TT) (r:ba) (all:List Oper) (i:Nat) (fr:List AV) (M:ai) (K:List AV->ai->Prop):Prop:=
 match all[i]? with
 |none=>K fr M
 |some o=>bU P tt (some r) all o fr M K
def jy (P:Program) (tt:TT) (r:ba) (all:List Oper) (K:List AV->ai->Prop):Nat->Array Bool->List AV->ai->Prop
 |0,listed,fr,M=>Region.ready .any all.toArray listed=[]/\K fr M
 |fuel+1,listed,fr,M=>(Region.ready .any all.toArray listed=[]->K fr M)/\
  ∀i∈Region.ready .any all.toArray listed,JS P tt r all i fr M (jy P tt r all K fuel (listed.setIfInBounds i true))
theorem tO (hT:aW P tt=true) {F:ag} {Q:Exit->Act->World->Prop}:∀(fuel:Nat) (listed:Array Bool) (S:ag) (ρ:aw) (w:World) (a:Act) (fr:List AV) (M:ai),jy P tt r all K fuel listed fr M->ax S F ρ M w->ei S ρ a fr->
  (∀a' w',cI S F ρ w K a' w'->Q .normal a' w')->wpAny P .any all.toArray Q fuel listed a w
 |0,listed,S,ρ,w,a,fr,M,h,hM,hF,hQ=>⟨h.1,hQ _ _ ⟨fr,M,S,ρ,h.2,ag.le_refl _,aw.le_refl _,hM,hF,ce.refl _⟩⟩
 |fuel+1,listed,S,ρ,w,a,fr,M,h,hM,hF,hQ=>by
  refine⟨fun h0=>hQ _ _ ⟨fr,M,S,ρ,h.1 h0,ag.le_refl _,aw.le_refl _,hM,hF,ce.refl _⟩,fun i hi=>?_⟩
  have hs:=h.2 i hi
  unfold JS at hs
  unfold wpOp
  obtain⟨_,o,ho,_⟩:=mem_ready.1 hi
  have ho':all[i]? =some o:=by simpa using ho
  rw[ho'] at hs
  rw[ho]
  simp only at hs⊢
  have hk:=gM (Q:=Q) hT hs hM hF
  have next:∀a' w',cI S F ρ w (jy P tt r all K fuel (listed.setIfInBounds i true)) a' w'->wpAny P .any all.toArray Q fuel (listed.setIfInBounds i true) a' w':=by
   rintro a' w' ⟨fr',M',S',ρ',hk,h1,h2,h3,h4,h5⟩
   exact tO hT fuel _ S' ρ' w' a' fr' M' hk h3 h4 fun a'' w'' h'=>hQ _ _ (h'.trans h1 h2 h5)
  split
  ·rename_i hw
   rw[if_pos hw] at hk
   exact .inl (Oper.wp_mono next hk)
  ·rename_i hw
   rw[if_neg hw] at hk
   exact next _ _ hk
def kq (all:List Oper) (listed:Array Bool):Prop:=
 listed.size=all.length/\∀(j:Nat) o,all[j]? =some o->listed.getD j true=true->∀e∈o.after,Region.binds .any e=true->listed.getD e.on false=true
theorem lk {listed:Array Bool} (hc:kq all listed):∀(n i j:Nat),tM n all i j=true->(∀o,all[j]? =some o->∀e∈o.after,Region.binds .any e=true->listed.getD e.on false=true)->listed.getD i false=true
 |0,i,j,h,_=>by simp[tM] at h
 |n+1,i,j,h,hj=>by
  simp only[tM] at h
  split at h
  ·rename_i o ho
   obtain⟨e,he,hb⟩:=List.any_eq_true.1 h
   rw[Bool.and_eq_true,Bool.or_eq_true] at hb
   have hl:=hj o ho e (by simpa using he) hb.1
   rcases hb.2 with h1|h1
   ·have:e.on=i:=by simpa using h1
    rw[<-this];exact hl
   ·refine lk hc n i e.on h1 fun o' ho' e' he' hb'=>hc.2 e.on o' ho' ?_ e' he' hb'
    have hlt:e.on<listed.size:=by rw[hc.1];exact(List.getElem?_eq_some_iff.1 ho').1
    simpa[hlt] using hl
  ·simp at h
theorem kr {listed:Array Bool} (hc:kq all listed) {j:Nat} (hj:j∈Region.ready .any all.toArray listed):kq all (listed.setIfInBounds j true):=by
 refine⟨by simp[hc.1],fun i o hi hl e he hb=>?_⟩
 obtain⟨_,o',ho',hall⟩:=mem_ready.1 hj
 by_cases hij:i=j
 ·subst hij
  have:o'=o:=by
   have h1:all.toArray[i]? =some o:=by simpa using hi
   rw[ho'] at h1;injection h1
  subst this
  exact getD_set_true (hall e he hb)
 ·rw[getD_set_ne true (Ne.symm hij)] at hl
  exact getD_set_true (hc.2 i o hi hl e he hb)
theorem qV {o:Oper} (hno:fM r=true->cls o.op≠2) {fr:List AV} {M:ai} (h:bU P tt (some r) all o fr M fun _ _=>False):False:=by
 rw[bQ] at h
 split at h
 ·exact qS hno _ _ h
 ·exact h
 ·exact h
theorem tP (hB:f6 tt r all=true) {k j:Nat} {x:Oper} (hx:all[k]? =some x) {listed:Array Bool} (hc:kq all listed) (hpre:∀m,m<k->listed.getD m true=true) (hk:k∈Region.ready .any all.toArray listed)
  (hj:j∈Region.ready .any all.toArray listed) (hjk:j≠k):∃y,all[j]? =some y/\k<j/\pr tt r all x y=true:=by
 obtain⟨hjun,y,hy,hall⟩:=mem_ready.1 hj
 have hy':all[j]? =some y:=by simpa using hy
 have hklt:k<j:=by
  rcases Nat.lt_or_ge k j with h|h
  ·exact h
  ·exfalso
   have:=hpre j (by omega)
   rw[this] at hjun;cases hjun
 have hkun:=(mem_ready.1 hk).1
 have hlen:=(List.getElem?_eq_some_iff.1 hx).1
 have hjlen:=(List.getElem?_eq_some_iff.1 hy').1
 refine⟨y,hy',hklt,?_⟩
 unfold f6 at hB
 rw[Bool.and_eq_true] at hB
 have h1:=List.all_eq_true.1 hB.2 k (List.mem_range.2 hlen)
 have h2:=List.all_eq_true.1 h1 j (List.mem_range.2 hjlen)
 rw[hx,hy',Bool.or_eq_true,Bool.or_eq_true] at h2
 rcases h2 with (h2|h2)|h2
 ·simp at h2;omega
 ·exact h2
 ·exfalso
  have:=lk hc _ k j h2 (fun o ho e he hb=>by
   rw[hy'] at ho;cases ho;exact hall e he hb)
  have hks:k<listed.size:=by rw[hc.1];exact hlen
  simp[hks] at this hkun
  rw[this] at hkun;cases hkun
theorem zd (hB:f6 tt r all=true) {k:Nat} {x:Oper} (hx:all[k]? =some x):∀(fuel:Nat) (listed:Array Bool) (fr:List AV) (M:ai),kq all listed->(∀m,m<k->listed.getD m true=true)->
  k∈Region.ready .any all.toArray listed->bU P tt (some r) all x fr M (jy P tt r all K fuel (listed.setIfInBounds k true))->jy P tt r all K (fuel+1) listed fr M:=by
 intro fuel
 induction fuel with
 |zero=>
  intro listed fr M hc hpre hk H
  refine⟨fun h=>(by rw[h] at hk;cases hk),fun j hj=>?_⟩
  by_cases hjk:j=k
  ·subst hjk
   unfold JS
   rw[hx]
   exact H
  ·exfalso
   obtain⟨y,_,_,hcomm⟩:=tP hB hx hc hpre hk hj hjk
   refine qV (fun ho=>(qT hcomm ho).1) (dc H fun f M' h=>?_)
   have:=ready_mono hj hjk
   rw[h.1] at this
   cases this
 |succ fuel ih=>
  intro listed fr M hc hpre hk H
  refine⟨fun h=>(by rw[h] at hk;cases hk),fun j hj=>?_⟩
  by_cases hjk:j=k
  ·subst hjk
   unfold JS
   rw[hx]
   exact H
  ·obtain⟨y,hy',hklt,hcomm⟩:=tP hB hx hc hpre hk hj hjk
   unfold JS
   rw[hy']
   have H2:=dc H fun f M' (h:jy P tt r all K (fuel+1) (listed.setIfInBounds k true) f M')=>h.2 j (ready_mono hj hjk)
   have H3:bU P tt (some r) all x fr M fun f M'=>bU P tt (some r) all y f M' (jy P tt r all K fuel ((listed.setIfInBounds k true).setIfInBounds j true)):=
    dc H2 fun f M' h=>by unfold JS at h;rw[hy'] at h;exact h
   have H4:=tL hcomm fr M _ H3
   refine dc H4 fun f M' h=>?_
   refine ih (listed.setIfInBounds j true) f M' (kr hc hj) (fun m hm=>by rw[getD_set_ne true (by omega)];exact hpre m hm) (ready_mono hk (fun e=>hjk e.symm)) ?_
   rw[Array.setIfInBounds_comm _ _ hjk]
   exact h
theorem oO (hB:f6 tt r all=true):∀(l:List Oper) (k:Nat) (listed:Array Bool) (fr:List AV) (M:ai),all.drop k=l->k+l.length=all.length->kq all listed->(∀m,m<k->listed.getD m true=true)->(∀m,k<=m->m<all.length->listed.getD m true=false)->
  fW P tt (some r) all l fr M K->jy P tt r all K l.length listed fr M
 |[],k,listed,fr,M,hd,hl,hc,h1,h2,h=>by
  refine⟨?_,h⟩
  cases hr:Region.ready .any all.toArray listed with
  |nil=>rfl
  |cons j r=>
   have hj:j∈Region.ready .any all.toArray listed:=by rw[hr];simp
   obtain⟨hu,o,ho,_⟩:=mem_ready.1 hj
   have:j<all.length:=by have:=(Array.getElem?_eq_some_iff.1 ho).1;simpa using this
   simp at hl
   rw[h1 j (by omega)] at hu;cases hu
 |o::r,k,listed,fr,M,hd,hl,hc,h1,h2,h=>by
  simp only[List.length_cons] at hl⊢
  have hk:all[k]? =some o:=by
   have:(all.drop k)[0]? =some o:=by rw[hd];rfl
   rw[List.getElem?_drop] at this
   simpa using this
  have hB':=hB
  unfold f6 at hB'
  rw[Bool.and_eq_true] at hB'
  have hready:k∈Region.ready .any all.toArray listed:=by
   rw[mem_ready]
   refine⟨h2 k (Nat.le_refl _) (by omega),o,by simpa using hk,fun e he hb=>?_⟩
   have hlt:=oN all 0 hB'.1 k o hk e he hb
   have:=h1 e.on (by omega)
   have hs:e.on<listed.size:=by rw[hc.1];omega
   simpa[hs] using this
  refine zd hB hk r.length listed fr M hc h1 hready (dc h fun f M' hh=>?_)
  refine oO hB r (k+1) _ f M' (by rw[<-List.drop_drop,hd];rfl) (by omega) (kr hc hready) (fun m hm=>?_) (fun m hm hml=>?_) hh
  ·by_cases e:m=k
   ·subst e
    have hs:m<listed.size:=by rw[hc.1];omega
    simp[hs]
   ·rw[getD_set_ne true (Ne.symm e)];exact h1 m (by omega)
  ·rw[getD_set_ne true (by omega)];exact h2 m (by omega) hml
theorem wU (hT:aW P tt=true) (hm:P.follows .mixedOrders=true) (hB:f6 tt r all=true) {S F:ag} {ρ:aw} {M:ai} {w:World} {a:Act} {fr:List AV} {id:Nat} {Q:Exit->Act->World->Prop}
  (h:fW P tt (some r) all all fr M K) (hM:ax S F ρ M w) (hF:ei S ρ a fr) (hQ:∀a' w',cI S F ρ w K a' w'->Q .normal a' w'):(Code.region id all.toArray true).wp P Q a w:=by
 refine wp_region_any hm ?_
 have hA:=oO (P:=P) (tt:=tt) (K:=K) hB all 0 (Array.replicate all.length false) fr M rfl (by simp) ⟨by simp,fun j o hj hl=>by
   have:=(List.getElem?_eq_some_iff.1 hj).1
   simp[this] at hl⟩ (by simp) (fun m _ hm=>by simp[hm]) h
 have:=tO hT all.length _ S ρ {w with drawn:=w.drawn+1} a fr M hA (hM.drawn _) hF (Q:=Q) (fun a' w' h'=>hQ a' w' (h'.trans (ag.le_refl _) (aw.le_refl _) (ce.drawn _ _ (Nat.le_succ _))))
 simpa using this
end
def G6 (ds:List Nat) (o:Oper):Bool:=match o.dst with
 |some d=>!(ds.any (Nat.beq d))
 |none=>true
def Gz (r:ba) (ds:List Nat) (o:Oper):ba:=match G6 ds o with
 |true=>r
 |false=> .own
theorem IW {r:ba} {ds:List Nat} {o:Oper} (h:G6 ds o=true):Gz r ds o=r:=by unfold Gz;rw[h]
def ku (tt:TT) (r:ba) (ds:List Nat) (all:List Oper):Bool:=
 qU all 0&&(List.range all.length).all fun i=>(List.range all.length).all fun j=>decide (j<=i)||
  (match all[i]?,all[j]? with|some x,some y=>G6 ds x&&G6 ds y&&pr tt r all x y|_,_=>false)||tM all.length all i j
def tQ (P:Program) (tt:TT) (r:ba) (ds:List Nat) (all:List Oper):List Oper->List AV->ai->(List AV->ai->Prop)->Prop
 |[],fr,M,K=>K fr M
 |o::l,fr,M,K=>bU P tt (some (Gz r ds o)) all o fr M fun fr' M'=>tQ P tt r ds all l fr' M' K
section
variable {P:Program} {tt:TT} {all:List Oper} {K:List AV->ai->Prop} {r:ba} {ds:List Nat}
def ze (P:Program) (tt:TT) (r:ba) (ds:List Nat) (all:List Oper) (i:Nat) (fr:List AV) (M:ai) (K:List AV->ai->Prop):Prop:=
 match all[i]? with
 |none=>K fr M
 |some o=>bU P tt (some (Gz r ds o)) all o fr M K
def fN (P:Program) (tt:TT) (r:ba) (ds:List Nat) (all:List Oper) (K:List AV->ai->Prop):Nat->Array Bool->List AV->ai->Prop
 |0,listed,fr,M=>Region.ready .any all.toArray listed=[]/\K fr M
 |fuel+1,listed,fr,M=>(Region.ready .any all.toArray listed=[]->K fr M)/\
  ∀i∈Region.ready .any all.toArray listed,ze P tt r ds all i fr M (fN P tt r ds all K fuel (listed.setIfInBounds i true))
theorem qW (hT:aW P tt=true) {F:ag} {Q:Exit->Act->World->Prop}:∀(fuel:Nat) (listed:Array Bool) (S:ag) (ρ:aw) (w:World) (a:Act) (fr:List AV) (M:ai),fN P tt r ds all K fuel listed fr M->ax S F ρ M w->ei S ρ a fr->
  (∀a' w',cI S F ρ w K a' w'->Q .normal a' w')->wpAny P .any all.toArray Q fuel listed a w
 |0,listed,S,ρ,w,a,fr,M,h,hM,hF,hQ=>⟨h.1,hQ _ _ ⟨fr,M,S,ρ,h.2,ag.le_refl _,aw.le_refl _,hM,hF,ce.refl _⟩⟩
 |fuel+1,listed,S,ρ,w,a,fr,M,h,hM,hF,hQ=>by
  refine⟨fun h0=>hQ _ _ ⟨fr,M,S,ρ,h.1 h0,ag.le_refl _,aw.le_refl _,hM,hF,ce.refl _⟩,fun i hi=>?_⟩
  have hs:=h.2 i hi
  unfold ze at hs
  unfold wpOp
  obtain⟨_,o,ho,_⟩:=mem_ready.1 hi
  have ho':all[i]? =some o:=by simpa using ho
  rw[ho'] at hs
  rw[ho]
  simp only at hs⊢
  have hk:=gM (Q:=Q) hT hs hM hF
  have next:∀a' w',cI S F ρ w (fN P tt r ds all K fuel (listed.setIfInBounds i true)) a' w'->wpAny P .any all.toArray Q fuel (listed.setIfInBounds i true) a' w':=by
   rintro a' w' ⟨fr',M',S',ρ',hk,h1,h2,h3,h4,h5⟩
   exact qW hT fuel _ S' ρ' w' a' fr' M' hk h3 h4 fun a'' w'' h'=>hQ _ _ (h'.trans h1 h2 h5)
  split
  ·rename_i hw
   rw[if_pos hw] at hk
   exact .inl (Oper.wp_mono next hk)
  ·rename_i hw
   rw[if_neg hw] at hk
   exact next _ _ hk
theorem qX (hB:ku tt r ds all=true) {k j:Nat} {x:Oper} (hx:all[k]? =some x) {listed:Array Bool} (hc:kq all listed) (hpre:∀m,m<k->listed.getD m true=true) (hk:k∈Region.ready .any all.toArray listed)
  (hj:j∈Region.ready .any all.toArray listed) (hjk:j≠k):∃y,all[j]? =some y/\k<j/\Gz r ds x=r/\Gz r ds y=r/\pr tt r all x y=true:=by
 obtain⟨hjun,y,hy,hall⟩:=mem_ready.1 hj
 have hy':all[j]? =some y:=by simpa using hy
 have hklt:k<j:=by
  rcases Nat.lt_or_ge k j with h|h
  ·exact h
  ·exfalso
   have:=hpre j (by omega)
   rw[this] at hjun;cases hjun
 have hkun:=(mem_ready.1 hk).1
 have hlen:=(List.getElem?_eq_some_iff.1 hx).1
 have hjlen:=(List.getElem?_eq_some_iff.1 hy').1
 refine⟨y,hy',hklt,?_⟩
 unfold ku at hB
 rw[Bool.and_eq_true] at hB
 have h1:=List.all_eq_true.1 hB.2 k (List.mem_range.2 hlen)
 have h2:=List.all_eq_true.1 h1 j (List.mem_range.2 hjlen)
 rw[hx,hy',Bool.or_eq_true,Bool.or_eq_true] at h2
 rcases h2 with (h2|h2)|h2
 ·simp at h2;omega
 ·rw[Bool.and_eq_true,Bool.and_eq_true] at h2
  exact⟨IW h2.1.1,IW h2.1.2,h2.2⟩
 ·exfalso
  have:=lk hc _ k j h2 (fun o ho e he hb=>by
   rw[hy'] at ho;cases ho;exact hall e he hb)
  have hks:k<listed.size:=by rw[hc.1];exact hlen
  simp[hks] at this hkun
  rw[this] at hkun;cases hkun
theorem wV (hB:ku tt r ds all=true) {k:Nat} {x:Oper} (hx:all[k]? =some x):∀(fuel:Nat) (listed:Array Bool) (fr:List AV) (M:ai),kq all listed->(∀m,m<k->listed.getD m true=true)->
  k∈Region.ready .any all.toArray listed->bU P tt (some (Gz r ds x)) all x fr M (fN P tt r ds all K fuel (listed.setIfInBounds k true))->fN P tt r ds all K (fuel+1) listed fr M:=by
 intro fuel
 induction fuel with
 |zero=>
  intro listed fr M hc hpre hk H
  refine⟨fun h=>(by rw[h] at hk;cases hk),fun j hj=>?_⟩
  by_cases hjk:j=k
  ·subst hjk
   unfold ze
   rw[hx]
   exact H
  ·exfalso
   obtain⟨y,_,_,ex,_,hcomm⟩:=qX hB hx hc hpre hk hj hjk
   rw[ex] at H
   refine qV (fun ho=>(qT hcomm ho).1) (dc H fun f M' h=>?_)
   have:=ready_mono hj hjk
   rw[h.1] at this
   cases this
 |succ fuel ih=>
  intro listed fr M hc hpre hk H
  refine⟨fun h=>(by rw[h] at hk;cases hk),fun j hj=>?_⟩
  by_cases hjk:j=k
  ·subst hjk
   unfold ze
   rw[hx]
   exact H
  ·obtain⟨y,hy',hklt,ex,ey,hcomm⟩:=qX hB hx hc hpre hk hj hjk
   unfold ze
   rw[hy']
   have H2:=dc H fun f M' (h:fN P tt r ds all K (fuel+1) (listed.setIfInBounds k true) f M')=>h.2 j (ready_mono hj hjk)
   have H3:bU P tt (some (Gz r ds x)) all x fr M fun f M'=>bU P tt (some (Gz r ds y)) all y f M' (fN P tt r ds all K fuel ((listed.setIfInBounds k true).setIfInBounds j true)):=
    dc H2 fun f M' h=>by unfold ze at h;rw[hy'] at h;exact h
   rw[ex,ey] at H3
   have H4:=tL hcomm fr M _ H3
   show bU P tt (some (Gz r ds y)) all y fr M (fN P tt r ds all K (fuel+1) (listed.setIfInBounds j true))
   rw[ey]
   refine dc H4 fun f M' h=>?_
   refine ih (listed.setIfInBounds j true) f M' (kr hc hj) (fun m hm=>by rw[getD_set_ne true (by omega)];exact hpre m hm) (ready_mono hk (fun e=>hjk e.symm)) ?_
   rw[Array.setIfInBounds_comm _ _ hjk,ex]
   exact h
theorem mO (hB:ku tt r ds all=true):∀(l:List Oper) (k:Nat) (listed:Array Bool) (fr:List AV) (M:ai),all.drop k=l->k+l.length=all.length->kq all listed->(∀m,m<k->listed.getD m true=true)->(∀m,k<=m->m<all.length->listed.getD m true=false)->
  tQ P tt r ds all l fr M K->fN P tt r ds all K l.length listed fr M
 |[],k,listed,fr,M,hd,hl,hc,h1,h2,h=>by
  refine⟨?_,h⟩
  cases hr:Region.ready .any all.toArray listed with
  |nil=>rfl
  |cons j r=>
   have hj:j∈Region.ready .any all.toArray listed:=by rw[hr];simp
   obtain⟨hu,o,ho,_⟩:=mem_ready.1 hj
   have:j<all.length:=by have:=(Array.getElem?_eq_some_iff.1 ho).1;simpa using this
   simp at hl
   rw[h1 j (by omega)] at hu;cases hu
 |o::r,k,listed,fr,M,hd,hl,hc,h1,h2,h=>by
  simp only[List.length_cons] at hl⊢
  have hk:all[k]? =some o:=by
   have:(all.drop k)[0]? =some o:=by rw[hd];rfl
   rw[List.getElem?_drop] at this
   simpa using this
  have hB':=hB
  unfold ku at hB'
  rw[Bool.and_eq_true] at hB'
  have hready:k∈Region.ready .any all.toArray listed:=by
   rw[mem_ready]
   refine⟨h2 k (Nat.le_refl _) (by omega),o,by simpa using hk,fun e he hb=>?_⟩
   have hlt:=oN all 0 hB'.1 k o hk e he hb
   have:=h1 e.on (by omega)
   have hs:e.on<listed.size:=by rw[hc.1];omega
   simpa[hs] using this
  refine wV hB hk r.length listed fr M hc h1 hready (dc h fun f M' hh=>?_)
  refine mO hB r (k+1) _ f M' (by rw[<-List.drop_drop,hd];rfl) (by omega) (kr hc hready) (fun m hm=>?_) (fun m hm hml=>?_) hh
  ·by_cases e:m=k
   ·subst e
    have hs:m<listed.size:=by rw[hc.1];omega
    simp[hs]
   ·rw[getD_set_ne true (Ne.symm e)];exact h1 m (by omega)
  ·rw[getD_set_ne true (by omega)];exact h2 m (by omega) hml
theorem u9 (hT:aW P tt=true) (hm:P.follows .mixedOrders=true) (hB:ku tt r ds all=true) {S F:ag} {ρ:aw} {M:ai} {w:World} {a:Act} {fr:List AV} {id:Nat} {Q:Exit->Act->World->Prop}
  (h:tQ P tt r ds all all fr M K) (hM:ax S F ρ M w) (hF:ei S ρ a fr) (hQ:∀a' w',cI S F ρ w K a' w'->Q .normal a' w'):(Code.region id all.toArray true).wp P Q a w:=by
 refine wp_region_any hm ?_
 have hA:=mO (P:=P) (tt:=tt) (K:=K) hB all 0 (Array.replicate all.length false) fr M rfl (by simp) ⟨by simp,fun j o hj hl=>by
   have:=(List.getElem?_eq_some_iff.1 hj).1
   simp[this] at hl⟩ (by simp) (fun m _ hm=>by simp[hm]) h
 have:=qW hT all.length _ S ρ {w with drawn:=w.drawn+1} a fr M hA (hM.drawn _) hF (Q:=Q) (fun a' w' h'=>hQ a' w' (h'.trans (ag.le_refl _) (aw.le_refl _) (ce.drawn _ _ (Nat.le_succ _))))
 simpa using this
end
def dL (all:List Oper) (done:List Nat):List Nat:=
 (List.range all.length).filter fun i=>!(done.any (Nat.beq i))&&(match all[i]? with|some o=>o.after.toList.all fun e=>!(Region.binds .any e)||(decide (e.on<all.length)&&done.any (Nat.beq e.on))|none=>false)
def pN:List Nat->(Nat->Prop)->Prop
 |[],_=>True
 |i::l,f=>f i/\pN l f
def Aw (P:Program) (tt:TT) (d:Option ba) (all:List Oper) (i:Nat) (fr:List AV) (M:ai) (K:List AV->ai->Prop):Prop:=
 match all[i]? with
 |none=>K fr M
 |some o=>bU P tt d all o fr M K
def bH (P:Program) (tt:TT) (d:Option ba) (all:List Oper) (K:List AV->ai->Prop):Nat->List Nat->List AV->ai->Prop
 |0,done,fr,M=>match dL all done with
  |[]=>K fr M
  |_::_=>False
 |n+1,done,fr,M=>match dL all done with
  |[]=>K fr M
  |i::l=>pN (i::l) fun j=>Aw P tt d all j fr M (bH P tt d all K n (j::done))
theorem qY {f:Nat->Prop}:∀{l:List Nat},pN l f->∀i∈l,f i
 |_::_,h,i,hi=>by
  rcases List.mem_cons.1 hi with rfl|hi
  ·exact h.1
  ·exact qY h.2 i hi
section
variable {P:Program} {tt:TT} {all:List Oper} {K:List AV->ai->Prop} {fr:List AV} {M:ai}
theorem fO {done:List Nat} {i:Nat}:done.any (Nat.beq i)=true↔i∈done:=by
 rw[List.any_eq_true]
 constructor
 ·rintro⟨x,hx,h⟩;rw[Nat.eq_of_beq_eq_true h];exact hx
 ·intro h;exact⟨i,h,by simp⟩
theorem nx {listed:Array Bool} {done:List Nat} (hs:listed.size=all.length) (hl:∀i,i<all.length->(listed.getD i true=true↔i∈done)) {i:Nat}:i∈dL all done↔i∈Region.ready .any all.toArray listed:=by
 have key:∀e,listed.getD e false=true↔e<all.length/\e∈done:=by
  intro e
  rcases Nat.lt_or_ge e listed.size with h|h
  ·rw[<-hs]
   refine⟨fun h1=>⟨h,(hl e (by omega)).1 (by simpa[h] using h1)⟩,fun h1=>?_⟩
   have:=(hl e (by omega)).2 h1.2
   simpa[h] using this
  ·refine⟨fun h1=>?_,fun h1=>by omega⟩
   simp[Array.getD,Nat.not_lt.2 h] at h1
 rw[mem_ready]
 unfold dL
 rw[List.mem_filter]
 constructor
 ·rintro⟨h1,h2⟩
  have hi:=List.mem_range.1 h1
  rw[Bool.and_eq_true,Bool.not_eq_true',Bool.eq_false_iff] at h2
  obtain⟨h2,h3⟩:=h2
  refine⟨?_,?_⟩
  ·rw[Bool.eq_false_iff]
   exact fun h=>h2 (fO.2 ((hl i hi).1 h))
  ·have ho:all[i]? =some all[i]:=List.getElem?_eq_getElem hi
   rw[ho] at h3
   refine⟨all[i],by simp,fun e he hb=>?_⟩
   have:=List.all_eq_true.1 h3 e (by simpa using he)
   rw[hb,Bool.not_true,Bool.false_or,Bool.and_eq_true] at this
   exact(key e.on).2 ⟨by simpa using this.1,fO.1 this.2⟩
 ·rintro⟨hu,o,ho,ha⟩
  have ho':all[i]? =some o:=by simpa using ho
  have hi:=(List.getElem?_eq_some_iff.1 ho').1
  refine⟨List.mem_range.2 hi,?_⟩
  rw[ho',Bool.and_eq_true]
  constructor
  ·rw[Bool.not_eq_true',Bool.eq_false_iff]
   intro hd
   have:=(hl i hi).2 (fO.1 hd)
   rw[this] at hu;cases hu
  ·dsimp only
   rw[List.all_eq_true]
   intro e he
   cases hb:Region.binds .any e with
   |false=>rfl
   |true=>
    have h1:=(key e.on).1 (ha e (by simpa using he) hb)
    rw[Bool.not_true,Bool.false_or,Bool.and_eq_true]
    exact⟨by simpa using h1.1,fO.2 h1.2⟩
theorem qZ {listed:Array Bool} {done:List Nat} (hs:listed.size=all.length) (hl:∀i,i<all.length->(listed.getD i true=true↔i∈done)) {j:Nat} (hj:j<all.length):
  ∀i,i<all.length->((listed.setIfInBounds j true).getD i true=true↔i∈j::done):=by
 intro i hi
 by_cases e:i=j
 ·subst e
  have:i<listed.size:=by omega
  simp[this]
 ·rw[getD_set_ne true (Ne.symm e),hl i hi]
  simp[e]
theorem ir {listed:Array Bool} {done:List Nat} (hs:listed.size=all.length) (hl:∀i,i<all.length->(listed.getD i true=true↔i∈done)):dL all done=[]↔Region.ready .any all.toArray listed=[]:=by
 rw[List.eq_nil_iff_forall_not_mem,List.eq_nil_iff_forall_not_mem]
 exact⟨fun h i hi=>h i ((nx hs hl).2 hi),fun h i hi=>h i ((nx hs hl).1 hi)⟩
theorem wW {d:Option ba} (hT:aW P tt=true) {F:ag} {Q:Exit->Act->World->Prop}:∀(n:Nat) (done:List Nat) (listed:Array Bool) (S:ag) (ρ:aw) (w:World) (a:Act) (fr:List AV) (M:ai),listed.size=all.length->(∀i,i<all.length->(listed.getD i true=true↔i∈done))->
  bH P tt d all K n done fr M->ax S F ρ M w->ei S ρ a fr->(∀a' w',cI S F ρ w K a' w'->Q .normal a' w')->wpAny P .any all.toArray Q n listed a w
 |0,done,listed,S,ρ,w,a,fr,M,hs,hl,h,hM,hF,hQ=>by
  unfold bH at h
  split at h
  ·rename_i h0;exact⟨(ir hs hl).1 h0,hQ _ _ ⟨fr,M,S,ρ,h,ag.le_refl _,aw.le_refl _,hM,hF,ce.refl _⟩⟩
  ·exact h.elim
 |n+1,done,listed,S,ρ,w,a,fr,M,hs,hl,h,hM,hF,hQ=>by
  unfold bH at h
  split at h
  ·rename_i h0
   have:=(ir hs hl).1 h0
   exact⟨fun _=>hQ _ _ ⟨fr,M,S,ρ,h,ag.le_refl _,aw.le_refl _,hM,hF,ce.refl _⟩,fun i hi=>by rw[this] at hi;cases hi⟩
  ·rename_i i l h0
   rw[<-h0] at h
   refine⟨fun h1=>?_,fun j hj=>?_⟩
   ·rw[(ir hs hl).2 h1] at h0;cases h0
   have hjr:=(nx hs hl).2 hj
   have h2:=qY h j hjr
   have hjl:j<all.length:=by
    unfold dL at hjr
    exact List.mem_range.1 (List.mem_filter.1 hjr).1
   unfold Aw at h2
   unfold wpOp
   obtain⟨_,o,ho,_⟩:=mem_ready.1 hj
   have ho':all[j]? =some o:=by simpa using ho
   rw[ho'] at h2
   rw[ho]
   simp only at h2⊢
   have hk:=gM (Q:=Q) hT h2 hM hF
   have next:∀a' w',cI S F ρ w (bH P tt d all K n (j::done)) a' w'->wpAny P .any all.toArray Q n (listed.setIfInBounds j true) a' w':=by
    rintro a' w' ⟨fr',M',S',ρ',hk,h1,h2,h3,h4,h5⟩
    exact wW hT n (j::done) _ S' ρ' w' a' fr' M' (by simpa using hs) (qZ hs hl hjl) hk h3 h4 fun a'' w'' h'=>hQ _ _ (h'.trans h1 h2 h5)
   split
   ·rename_i hw
    rw[if_pos hw] at hk
    exact .inl (Oper.wp_mono next hk)
   ·rename_i hw
    rw[if_neg hw] at hk
    exact next _ _ hk
theorem vb {d:Option ba} (hT:aW P tt=true) (hm:P.follows .mixedOrders=true) {S F:ag} {ρ:aw} {w:World} {a:Act} {id:Nat} {Q:Exit->Act->World->Prop}
  (h:bH P tt d all K all.length [] fr M) (hM:ax S F ρ M w) (hF:ei S ρ a fr) (hQ:∀a' w',cI S F ρ w K a' w'->Q .normal a' w'):(Code.region id all.toArray true).wp P Q a w:=by
 refine wp_region_any hm ?_
 have:=wW hT all.length [] (Array.replicate all.length false) S ρ {w with drawn:=w.drawn+1} a fr M (by simp) (fun i hi=>by simp[hi]) h (hM.drawn _) hF (Q:=Q) (fun a' w' h'=>hQ a' w' (h'.trans (ag.le_refl _) (aw.le_refl _) (ce.drawn _ _ (Nat.le_succ _))))
 simpa using this
end
end
end Go.Proofs.YtokjgegkhlkopaaGreatDoor
