import Derived.Test.YtnjggjhkfncnlaaGreatDoorG2
set_option linter.unusedVariables false
set_option linter.unusedSimpArgs false
namespace Go.Proofs.YtnjggjhkfncnlaaGreatDoor
def mc (S F:ai) (ρ:aD) (w:World) (R:AV->aj->Prop) (e:Ending) (w':World):Prop:=
 ∃v u M' S' ρ',e= .returned v/\R u M'/\S.le S'/\aD.le ρ ρ'/\aF S' F ρ' M' w'/\RV S' ρ' v u/\du w w'
def nY (P:Program) (f:FuncId):Prop:=∃fn,P.funcs[f]? =some fn/\(fn.name== "runtime.NumGoroutine")=false/\fn.body.isNone=false
structure ak (P:Program) (f:FuncId) (args:List AV) (M:aj) (R:AV->aj->Prop):Prop where
 out:nY P f/\∀S F ρ vs w,aF S F ρ M w->bj S ρ vs args->Calls P f vs.toArray w (mc S F ρ w R)
theorem cr {P:Program} {f:FuncId} {args:List AV} {M:aj} {R:AV->aj->Prop}:ak P f args M R↔(nY P f/\∀S F ρ vs w,aF S F ρ M w->bj S ρ vs args->Calls P f vs.toArray w (mc S F ρ w R)):=⟨fun h=>h.out,fun h=>⟨h⟩⟩
def pe (S F:ai) (w:World) (R:AV->Prop) (e:Ending) (w':World):Prop:=
 ∃v u S',e= .returned v/\R u/\S.le S'/\S'.inW w'/\F.inW w'/\(∀b,S' b=none\/F b=none)/\RP S' v u/\du w w'
structure ab (P:Program) (f:FuncId) (args:List AV) (R:AV->Prop):Prop where
 out:nY P f/\∀S F vs w,Gl S->S.inW w->F.inW w->(∀b,S b=none\/F b=none)->ir S vs args->Calls P f vs.toArray w (pe S F w R)
theorem dj {P:Program} {f:FuncId} {args:List AV} {R:AV->Prop}:ab P f args R↔(nY P f/\∀S F vs w,Gl S->S.inW w->F.inW w->(∀b,S b=none\/F b=none)->ir S vs args->Calls P f vs.toArray w (pe S F w R)):=⟨fun h=>h.out,fun h=>⟨h⟩⟩
def cJ:Nat->AV->Bool
 |0,_=>false
 |n+1, .agg cs=>cs.all (cJ n)
 |n+1, .tup cs=>cs.all (cJ n)
 |n+1, .fn _ cs=>cs.all (cJ n)
 |_+1, .ptr _ _=>false
 |_+1, .row _ _ _=>false
 |_+1, .rel _ _ _=>false
 |_+1, .part _ _ _ _=>false
 |_+1, .mp _=>false
 |_+1,_=>true
section
variable {S F:ai} {ρ:aD} {M:aj} {w:World} {P:Program}
theorem ki:∀(n:Nat) {u:AV} {v:Value},cJ n u=true->RV S ρ v u->RP S v u:=by
 intro n
 induction n with
 |zero=>intro u v h;simp[cJ] at h
 |succ n ih=>
  intro u v h hv
  have hl:∀{cs:List AV} {vs:Array Value},cs.all (cJ n)=true->bj S ρ vs.toList cs->vs.size=cs.length/\∃vals:Nat->Value,(∀i,i<vs.size->vs[i]? =some (vals i))/\∀(j:Nat) u,cs[j]? =some u->RP S (vals j) u:=by
   intro cs vs ha hr
   have hs:=hr.1
   simp only[Array.length_toList] at hs
   refine⟨hs,fun i=>vs.getD i undef,fun i hi=>by simp[hi],fun j x hx=>?_⟩
   obtain⟨y,hy,hyr⟩:=hr.2 j x hx
   have:vs.getD j undef=y:=by
    have hy':vs[j]? =some y:=by simpa using hy
    simp[hy']
   show RP S (vs.getD j undef) x
   rw[this]
   exact ih (List.all_eq_true.1 ha x (List.mem_of_getElem? hx)) hyr
  cases u with
  |agg cs=>
   obtain⟨vs,rfl,hr⟩:=hv.agg_inv
   obtain⟨hs,vals,he,hvv⟩:=hl h hr
   exact .agg cs vs hs vals he hvv
  |tup cs=>
   obtain⟨vs,rfl,hr⟩:=hv.tup_inv
   obtain⟨hs,vals,he,hvv⟩:=hl h hr
   exact .tup cs vs hs vals he hvv
  |fn f cs=>
   obtain⟨vs,rfl,hr⟩:=hv.fn_inv
   obtain⟨hs,vals,he,hvv⟩:=hl h hr
   exact .fn f cs vs hs vals he hvv
  |ptr _ _=>simp[cJ] at h
  |row _ _ _=>simp[cJ] at h
  |rel _ _ _=>simp[cJ] at h
  |part _ _ _ _=>simp[cJ] at h
  |mp _=>simp[cJ] at h
  |top=>exact .top _
  |int k n=>rw[hv.int_inv];exact .int _ _
  |bool b=>rw[hv.bool_inv];exact .bool _
  |str s=>rw[hv.str_inv];exact .str _
  |nilsl=>rw[hv.nilsl_inv];exact .nilsl
  |val x=>rw[hv.val_inv];exact .val _
  |sl d enc l=>exact hv.sl_inv
  |slc d enc l=>exact hv.slc_inv
  |pd c=>exact hv.pd_inv
theorem rf {n:Nat} {us:List AV} {vs:List Value} (h:us.all (cJ n)=true) (hv:bj S ρ vs us):ir S vs us:=
 ⟨hv.1,fun i u hu=>let ⟨v,e,hr⟩:=hv.2 i u hu;⟨v,e,ki n (List.all_eq_true.1 h u (List.mem_of_getElem? hu)) hr⟩⟩
noncomputable def fv (F:ai) (ρ:aD) (M:aj) (w:World) (own:Nat->Prop):ai:=fun k=>
 open Classical in if(∃ℓ B b,M ℓ=some B/\ρ ℓ=some b/\B.live b/\b.blk=k/\¬own ℓ) then w.heap[k]? else F k
theorem lG {own:Nat->Prop} {ℓ:Nat} {B:cn} {b:eQ} (h1:M ℓ=some B) (h2:ρ ℓ=some b) (h3:B.live b) (h4:¬own ℓ):fv F ρ M w own b.blk=w.heap[b.blk]?:=by
 unfold fv;rw[if_pos ⟨ℓ,B,b,h1,h2,h3,rfl,h4⟩]
theorem kj {own:Nat->Prop} (hM:aF S F ρ M w):ai.le F (fv F ρ M w own):=by
 intro k o hk
 unfold fv
 split
 ·exact hM.fw k o hk
 ·exact hk
theorem na {own:Nat->Prop} (hM:aF S F ρ M w):(fv F ρ M w own).inW w:=by
 intro k o hk
 unfold fv at hk
 split at hk
 ·exact hk
 ·exact hM.fw k o hk
theorem pf {own:Nat->Prop} (hM:aF S F ρ M w) (k:Nat):S k=none\/fv F ρ M w own k=none:=by
 unfold fv
 split
 ·rename_i h
  obtain⟨ℓ,B,b,h1,h2,h3,rfl,_⟩:=h
  obtain⟨b',hb',hr⟩:=hM.blk _ _ h1
  rw[h2] at hb';cases hb'
  exact .inl (hr.off h3).1
 ·exact hM.sf k
theorem aF.behind {S':ai} {w':World} (hM:aF S F ρ M w) (hle:S.le S') (hs:S'.inW w') (hf:(fv F ρ M w (fun _=>False)).inW w') (hd:∀b,S' b=none\/fv F ρ M w (fun _=>False) b=none):aF S' F ρ M w':=by
 refine⟨hs,fun k o hk=>hf k o (kj hM k o hk),fun k=>?_,hM.dom,fun ℓ B hB=>?_,hM.inj,hM.gl.mono hle⟩
 ·rcases hd k with h|h
  ·exact .inl h
  ·right
   cases hk:F k with
   |none=>rfl
   |some o=>rw[kj hM k o hk] at h;cases h
 ·obtain⟨b,hb,hr⟩:=hM.blk _ _ hB
  refine⟨b,hb,hr.keep hle (aD.le_refl _) fun hl=>?_⟩
  have hk:=lG (F:=F) (w:=w) (own:=fun _=>False) hB hb hl (fun h=>h)
  have hlt:=hr.lt hl
  obtain⟨o,ho⟩:∃o,w.heap[b.blk]? =some o:=⟨_,Array.getElem?_eq_getElem hlt⟩
  refine⟨by rw[hf b.blk o (hk.trans ho),ho],?_⟩
  rw[(hr.off hl).1]
  rcases hd b.blk with h|h
  ·exact h
  ·rw[hk,ho] at h;cases h
theorem ak.of_pure {f:FuncId} {args:List AV} {R:AV->Prop} {K:AV->aj->Prop} {n:Nat} (h:ab P f args R) (hp:args.all (cJ n)=true) (hk:∀u,R u->K u M):ak P f args M K:=by
 rw[cr]
 rw[dj] at h
 refine⟨h.1,?_⟩
 intro S F ρ vs w hM hv
 refine(h.2 S (fv F ρ M w (fun _=>False)) vs w hM.gl hM.sw (na hM) (pf hM) (rf hp hv)).mono ?_
 rintro e w' ⟨v,u,S',rfl,hR,hle,hs,hf,hd,hr,hw⟩
 exact⟨v,u,M,S',ρ,rfl,hk u hR,hle,aD.le_refl _,hM.behind hle hs hf hd, .p hr,hw⟩
theorem ab.of_spec {f:FuncId} {args:List AV} {R:AV->Prop} (n:Nat) (h:ak P f args aj.none (fun u _=>R u/\cJ n u=true)):ab P f args R:=by
 rw[dj]
 rw[cr] at h
 refine⟨h.1,?_⟩
 intro S F vs w hg hs hf hd hv
 refine(h.2 S F (fun _=>none) vs w ⟨hs,hf,hd,by simp,by simp[aj.none],by simp,hg⟩ (hv.rv _)).mono ?_
 rintro e w' ⟨v,u,M',S',ρ',rfl,⟨hR,hp⟩,hle,_,hM',hr,hw⟩
 exact⟨v,u,S',rfl,hR,hle,hM'.sw,hM'.fw,hM'.sf,ki n hp hr,hw⟩
theorem ak.mono {f:FuncId} {args:List AV} {R R':AV->aj->Prop} (h:ak P f args M R) (hr:∀u M,R u M->R' u M):ak P f args M R':=by
 simp only[cr] at*
 refine⟨h.1,?_⟩
 intro S F ρ vs w hM hv
 exact(h.2 S F ρ vs w hM hv).mono fun e w' ⟨v,u,M',S',ρ',a,b,c⟩=>⟨v,u,M',S',ρ',a,hr _ _ b,c⟩
theorem ab.mono {f:FuncId} {args:List AV} {R R':AV->Prop} (h:ab P f args R) (hr:∀u,R u->R' u):ab P f args R':=by
 simp only[dj] at*
 refine⟨h.1,?_⟩
 intro S F vs w h0 h1 h2 h3 hv
 exact(h.2 S F vs w h0 h1 h2 h3 hv).mono fun e w' ⟨v,u,S',a,b,c⟩=>⟨v,u,S',a,hr _ b,c⟩
theorem ak.weaken {f:FuncId} {args args':List AV} {R:AV->aj->Prop} (h:ak P f args' M R)
  (hw:∀S F ρ vs w,aF S F ρ M w->bj S ρ vs args->bj S ρ vs args'):ak P f args M R:=by
 simp only[cr] at*
 refine⟨h.1,?_⟩
 intro S F ρ vs w hM hv
 exact h.2 S F ρ vs w hM (hw S F ρ vs w hM hv)
theorem ak.leak {f:FuncId} {args:List AV} {R:AV->aj->Prop} {ℓ:Nat} {t:TypeId} {α:Type} {d:α} {enc:α->List AV} {l:List α} (hl:M ℓ=some (.row t d enc l))
  (h:ak P f args (M.set ℓ (.gone d enc l)) R):ak P f args M R:=by
 simp only[cr] at*
 refine⟨h.1,?_⟩
 intro S F ρ vs w hM hv
 obtain⟨S',b,hle,hb,hM',_⟩:=hM.leak hl
 refine(h.2 S' F ρ vs w hM' (hv.mono hle (aD.le_refl _))).mono ?_
 rintro e w' ⟨v,u,M',S'',ρ',a,b,c,r⟩
 exact⟨v,u,M',S'',ρ',a,b,ai.le_trans hle c,r⟩
end
end Go.Proofs.YtnjggjhkfncnlaaGreatDoor
namespace Go.Proofs.YtnjggjhkfncnlaaGreatDoor
inductive LM
 |old (ℓ:Nat)
 |nil (sz:Nat)
abbrev cT:=List (Nat×LM)
def aU:cT->Nat->Option LM
 |[],_=>none
 |(k,x)::r,ℓ=>match Nat.beq k ℓ with|true=>some x|false=>aU r ℓ
def aj.ofL:List (Nat×cn)->aj
 |[],_=>Option.none
 |(k,B)::r,ℓ=>match Nat.beq k ℓ with|true=>some B|false=>aj.ofL r ℓ
mutual
def jr (lm:cT):Nat->AV->AV->Prop
 |0,_,_=>False
 |n+1,u,v=>match v with
  | .top=>True
  | .ptr ℓ' o'=>match u with
   | .ptr ℓ o=>match aU lm ℓ' with
    |some (.old m)=>match Nat.beq m ℓ with|true=>o=o'|false=>False
    |_=>False
   |_=>False
  | .row ℓ' n' sz'=>match u with
   | .row ℓ n sz=>match aU lm ℓ' with
    |some (.old m)=>match Nat.beq m ℓ,Nat.beq sz sz' with
     |true,true=>n=n'
     |_,_=>False
    |_=>False
   | .nilsl=>match aU lm ℓ' with
    |some (.nil sz)=>match Nat.beq sz sz' with
     |true=>0=n'
     |false=>False
    |_=>False
   |_=>False
  | .rel ℓ' i' o'=>match u with
   | .rel ℓ i o=>match aU lm ℓ' with
    |some (.old m)=>match Nat.beq m ℓ with|true=>i=i'/\o=o'|false=>False
    |_=>False
   |_=>False
  | .part ℓ' lo' n' sz'=>match u with
   | .part ℓ lo n sz=>match aU lm ℓ' with
    |some (.old m)=>match Nat.beq m ℓ with|true=>lo=lo'/\n=n'/\sz=sz'|false=>False
    |_=>False
   |_=>False
  | .mp ℓ'=>match u with
   | .mp ℓ=>match aU lm ℓ' with
    |some (.old m)=>match Nat.beq m ℓ with|true=>True|false=>False
    |_=>False
   |_=>False
  | .fn f' cs'=>match u with
   | .fn f cs=>match Nat.beq f f' with|true=>ij lm n cs cs'|false=>False
   |_=>False
  | .agg cs'=>match u with
   | .agg cs=>ij lm n cs cs'
   |_=>False
  | .tup cs'=>match u with
   | .tup cs=>ij lm n cs cs'
   |_=>False
  | .int k' m'=>match u with
   | .int k m=>match Nat.beq (kn k) (kn k') with|true=>m=m'|false=>False
   |_=>False
  | .bool b'=>match u with
   | .bool b=>b=b'
   |_=>False
  | .sl d enc l=>match u with
   | .nilsl=>l=[]
   |u=>u= .sl d enc l
  |v=>u=v
def ij (lm:cT):Nat->List AV->List AV->Prop
 |0,_,_=>False
 |n+1,us,vs=>match us,vs with
  |[],[]=>True
  |u::us,v::vs=>match v with
   | .top=>ij lm n us vs
   |v=>jr lm n u v/\ij lm n us vs
  |_,_=>False
end
def md (lm:cT) (n:Nat):Option cn->cn->Prop
 |some _, .dead=>True
 |none, .dead=>False
 |some (.box t cs), .box t' cs'=>match Nat.beq t t' with|true=>ij lm n cs cs'|false=>False
 |some (.row t d enc l), .row t' d' enc' l'=>cn.row t d enc l=cn.row t' d' enc' l'
 |some (.gone d enc l), .gone d' enc' l'=>cn.gone d enc l=cn.gone d' enc' l'
 |some (.iter s p), .iter s' p'=>s=s'/\p=p'
 |some (.map ek ev l), .map ek' ev' l'=>cn.map ek ev l=cn.map ek' ev' l'
 |some (.obj o), .obj o'=>o=o'
 |_,_=>False
def cU (lm:cT) (n:Nat) (M:aj):List (Nat×cn)->Prop
 |[]=>True
 |(ℓ',B')::r=>(match aU lm ℓ' with
  |some (.old ℓ)=>md lm n (M ℓ) B'
  |some (.nil _)=>match B' with
   | .row _ _ _ l=>l=[]
   |_=>False
  |none=>False)/\cU lm n M r
def i7 (lm:cT) (L:List (Nat×cn)):Bool:=lm.all fun p=>(aj.ofL L p.1).isSome
def me:cT->Bool
 |[]=>true
 |(_, .old ℓ)::r=>r.all (fun p=>match p.2 with| .old m=>!(Nat.beq m ℓ)| .nil _=>true)&&me r
 |(_, .nil _)::r=>me r
def js (L:List (Nat×cn)) (k:Nat):Bool:=match aj.ofL L k with
 |some .dead=>false
 |_=>true
def i8 (L:List (Nat×cn)) (lm:cT):Bool:=me (lm.filter fun p=>js L p.1)
def rg (lm:cT) (D:List Nat):Bool:=D.all fun d=>match aU lm d with|some (.old m)=>Nat.beq m d|_=>false
def xP:cT->Bool
 |[]=>true
 |(k,_)::r=>r.all (fun p=>!(Nat.beq p.1 k))&&xP r
def bJ (lm:cT) (ρ:aD):aD:=fun ℓ'=>match aU lm ℓ' with
 |some (.old ℓ)=>ρ ℓ
 |some (.nil sz)=>some ⟨0,0,0,sz,true⟩
 |none=>none
section
variable {S F:ai} {ρ:aD} {M:aj} {w:World} {lm:cT}
theorem km:∀(n:Nat),(∀(u v:AV) (x:Value),jr lm n u v->RV S ρ x u->RV S (bJ lm ρ) x v)/\(∀(us vs:List AV) (xs:List Value),ij lm n us vs->bj S ρ xs us->bj S (bJ lm ρ) xs vs):=by
 intro n
 induction n with
 |zero=>exact⟨fun u v x h=>by simp[jr] at h,fun us vs xs h=>by simp[ij] at h⟩
 |succ n ih=>
  refine⟨fun u v x h hx=>?_,fun us vs xs h hx=>?_⟩
  ·have pers:∀{v:AV},u=v->(∀{y},RV S ρ y v->RP S y v)->RV S (bJ lm ρ) x v:=fun e hp=>by subst e;exact .p (hp hx)
   cases v with
   |top=>exact .p (.top _)
   |ptr ℓ' o'=>
    simp only[jr] at h
    split at h
    ·split at h
     ·rename_i ℓ o m hm
      split at h
      ·rename_i hb
       have:=Nat.eq_of_beq_eq_true hb
       subst this;subst h
       obtain⟨b,hb,rfl⟩:=hx.ptr_inv
       exact .ptr _ _ b (by unfold bJ;rw[hm];exact hb)
      ·exact h.elim
     ·exact h.elim
    ·exact h.elim
   |row ℓ' n' sz'=>
    simp only[jr] at h
    split at h
    ·split at h
     ·rename_i ℓ k sz m hm
      split at h
      ·rename_i hb hs
       have:=Nat.eq_of_beq_eq_true hb
       subst this
       have:=Nat.eq_of_beq_eq_true hs
       subst this;subst h
       obtain⟨b,hb,h1,h2,h3,rfl⟩:=hx.row_inv
       exact .row _ _ _ b (by unfold bJ;rw[hm];exact hb) h1 h2 h3
      ·exact h.elim
     ·exact h.elim
    ·split at h
     ·rename_i sz hm
      split at h
      ·rename_i hs
       have:=Nat.eq_of_beq_eq_true hs
       subst this;subst h
       rw[hx.nilsl_inv]
       have:=RV.row (S:=S) (ρ:=bJ lm ρ) ℓ' 0 sz ⟨0,0,0,sz,true⟩ (by unfold bJ;rw[hm]) rfl rfl (fun _=>rfl)
       exact this
      ·exact h.elim
     ·exact h.elim
    ·exact h.elim
   |rel ℓ' i' o'=>
    simp only[jr] at h
    split at h
    ·split at h
     ·rename_i ℓ i o m hm
      split at h
      ·rename_i hb
       have:=Nat.eq_of_beq_eq_true hb
       subst this
       obtain⟨rfl,rfl⟩:=h
       obtain⟨b,hb,h1,rfl⟩:=hx.rel_inv
       exact .rel _ _ _ b (by unfold bJ;rw[hm];exact hb) h1
      ·exact h.elim
     ·exact h.elim
    ·exact h.elim
   |part ℓ' lo' n' sz'=>
    simp only[jr] at h
    split at h
    ·split at h
     ·rename_i ℓ lo n sz m hm
      split at h
      ·rename_i hb
       have:=Nat.eq_of_beq_eq_true hb
       subst this
       obtain⟨rfl,rfl,rfl⟩:=h
       obtain⟨b,a,c,hb,h1,h2,h3,rfl⟩:=hx.part_inv
       exact .part _ _ _ _ b a c (by unfold bJ;rw[hm];exact hb) h1 h2 h3
      ·exact h.elim
     ·exact h.elim
    ·exact h.elim
   |mp ℓ'=>
    simp only[jr] at h
    split at h
    ·split at h
     ·rename_i ℓ m hm
      split at h
      ·rename_i hb
       have:=Nat.eq_of_beq_eq_true hb
       subst this
       obtain⟨b,hb,rfl⟩:=hx.mp_inv
       exact .mp _ b (by unfold bJ;rw[hm];exact hb)
      ·exact h.elim
     ·exact h.elim
    ·exact h.elim
   |fn f' cs'=>
    simp only[jr] at h
    split at h
    ·rename_i f cs
     split at h
     ·rename_i hf
      have:=Nat.eq_of_beq_eq_true hf
      subst this
      obtain⟨vs,rfl,hv⟩:=hx.fn_inv
      have:=RV.fn_mk f (ih.2 cs cs' vs.toList h hv)
      simpa using this
     ·exact h.elim
    ·exact h.elim
   |agg cs'=>
    simp only[jr] at h
    split at h
    ·rename_i cs
     obtain⟨vs,rfl,hv⟩:=hx.agg_inv
     have:=RV.agg_mk (ih.2 cs cs' vs.toList h hv)
     simpa using this
    ·exact h.elim
   |tup cs'=>
    simp only[jr] at h
    split at h
    ·rename_i cs
     obtain⟨vs,rfl,hv⟩:=hx.tup_inv
     have:=RV.tup_mk (ih.2 cs cs' vs.toList h hv)
     simpa using this
    ·exact h.elim
   |int k' m'=>
    simp only[jr] at h
    split at h
    ·split at h
     ·rename_i hk
      have:=An hk
      subst this;subst h
      rw[hx.int_inv]
      exact .p (.int _ _)
     ·exact h.elim
    ·exact h.elim
   |bool b'=>
    simp only[jr] at h
    split at h
    ·subst h
     rw[hx.bool_inv]
     exact .p (.bool _)
    ·exact h.elim
   |sl d enc l=>
    simp only[jr] at h
    split at h
    ·subst h
     rw[hx.nilsl_inv]
     exact .p (.sl d enc [] none 0 0 (fun _ _=>undef) (by simp) (by simp) (by simp) (by simp) (by simp) (by simp))
    ·exact pers h fun hy=>hy.sl_inv
   |str s=>simp only[jr] at h;exact pers h fun hy=>by rw[hy.str_inv];exact .str _
   |nilsl=>simp only[jr] at h;exact pers h fun hy=>by rw[hy.nilsl_inv];exact .nilsl
   |val y=>simp only[jr] at h;exact pers h fun hy=>by rw[hy.val_inv];exact .val _
   |slc d enc l=>simp only[jr] at h;exact pers h fun hy=>hy.slc_inv
   |pd c=>simp only[jr] at h;exact pers h fun hy=>hy.pd_inv
  ·simp only[ij] at h
   split at h
   ·rw[hx.nil_inv];exact bj.nil _ _
   ·rename_i u us v vs
    obtain⟨y,ys,rfl,hy,hys⟩:=hx.cons_inv
    split at h
    ·exact bj.cons (.p (.top _)) (ih.2 us vs ys h hys)
    ·exact bj.cons (ih.1 u v y h.1 hy) (ih.2 us vs ys h.2 hys)
   ·exact h.elim
theorem iw:∀{L:List (Nat×cn)} {ℓ:Nat} {B:cn},aj.ofL L ℓ=some B->(ℓ,B)∈L
 |[],_,_,h=>by simp[aj.ofL] at h
 |(k,C)::r,ℓ,B,h=>by
  simp only[aj.ofL] at h
  split at h
  ·rename_i hk
   have:=Nat.eq_of_beq_eq_true hk
   subst this
   cases h;exact List.mem_cons_self
  ·exact List.mem_cons_of_mem _ (iw h)
theorem mf {n:Nat}:∀{L:List (Nat×cn)},cU lm n M L->∀ℓ' B',(ℓ',B')∈L->(match aU lm ℓ' with
  |some (.old ℓ)=>md lm n (M ℓ) B'
  |some (.nil _)=>match B' with
   | .row _ _ _ l=>l=[]
   |_=>False
  |none=>False)
 |[],_,_,_,h=>by cases h
 |(k,C)::r,h,ℓ',B',hm=>by
  rcases List.mem_cons.1 hm with e|hm
  ·injection e with e1 e2;subst e1;subst e2;exact h.1
  ·exact mf h.2 ℓ' B' hm
theorem fS:∀{lm:cT} {ℓ:Nat} {x:LM},aU lm ℓ=some x->(ℓ,x)∈lm
 |[],_,_,h=>by simp[aU] at h
 |(k,y)::r,ℓ,x,h=>by
  simp only[aU] at h
  split at h
  ·rename_i hk
   have:=Nat.eq_of_beq_eq_true hk
   subst this
   cases h;exact List.mem_cons_self
  ·exact List.mem_cons_of_mem _ (fS h)
theorem uo:∀{lm:cT},me lm=true->∀{a b ℓ:Nat},aU lm a=some (.old ℓ)->aU lm b=some (.old ℓ)->a=b
 |[],_,_,_,_,h,_=>by simp[aU] at h
 |(k,x)::r,ho,a,b,ℓ,ha,hb=>by
  have hr:me r=true:=by
   cases x with
   |old m=>simp only[me,Bool.and_eq_true] at ho;exact ho.2
   |nil _=>simpa only[me] using ho
  have far:∀{c:Nat},x= .old ℓ->aU r c=some (.old ℓ)->False:=by
   intro c hx hc
   subst hx
   simp only[me,Bool.and_eq_true] at ho
   have:=List.all_eq_true.1 ho.1 _ (fS hc)
   simp at this
  simp only[aU] at ha hb
  split at ha
  ·rename_i hka
   split at hb
   ·rename_i hkb
    rw[<-Nat.eq_of_beq_eq_true hka,<-Nat.eq_of_beq_eq_true hkb]
   ·cases ha;exact(far rfl hb).elim
  ·split at hb
   ·cases hb;exact(far rfl ha).elim
   ·exact uo hr ha hb
theorem iP {L:List (Nat×cn)} {a:Nat} (ha:js L a=true):∀{lm:cT} {x:LM},aU lm a=some x->aU (lm.filter fun p=>js L p.1) a=some x
 |[],_,h=>by simp[aU] at h
 |(k,y)::r,x,h=>by
  simp only[aU] at h
  split at h
  ·rename_i hk
   have:=Nat.eq_of_beq_eq_true hk
   subst this
   cases h
   rw[List.filter_cons_of_pos (by exact ha)]
   simp[aU]
  ·rename_i hk
   have ih:=iP ha h
   by_cases hp:js L k=true
   ·rw[List.filter_cons_of_pos (by exact hp)]
    simp only[aU,hk]
    exact ih
   ·rw[List.filter_cons_of_neg (by exact hp)]
    exact ih
theorem mg {L:List (Nat×cn)} {k:Nat} {B:cn} {b:eQ} (h:aj.ofL L k=some B) (hl:B.live b):js L k=true:=by
 unfold js
 rw[h]
 cases B<;>first|rfl|exact hl.elim
theorem aF.relabel (hM:aF S F ρ M w) {L:List (Nat×cn)} {n:Nat} (hm:cU lm n M L) (hk:i7 lm L=true) (ho:i8 L lm=true):aF S F (bJ lm ρ) (aj.ofL L) w:=by
 have live:∀ℓ' B',aj.ofL L ℓ'=some B'->∀b,bJ lm ρ ℓ'=some b->B'.live b->∃ℓ B,aU lm ℓ'=some (.old ℓ)/\M ℓ=some B/\ρ ℓ=some b/\B.live b:=by
  intro ℓ' B' hB' b hb hl
  have h:=mf hm ℓ' B' (iw hB')
  unfold bJ at hb
  split at h
  ·rename_i ℓ hf
   rw[hf] at hb
   simp only at hb
   unfold md at h
   split at h
   ·exact hl.elim
   ·exact h.elim
   ·rename_i t cs t' cs' hML
    exact⟨ℓ,_,hf,hML,hb,trivial⟩
   ·rename_i t α d enc l t' α' d' enc' l' hML
    refine⟨ℓ,_,hf,hML,hb,?_⟩
    rw[h];exact hl
   ·exact hl.elim
   ·rename_i s p s' p' hML
    exact⟨ℓ,_,hf,hML,hb,trivial⟩
   ·rename_i hML
    exact⟨ℓ,_,hf,hML,hb,trivial⟩
   ·rename_i hML
    exact⟨ℓ,_,hf,hML,hb,trivial⟩
   ·exact h.elim
  ·rename_i sz hf
   rw[hf] at hb
   simp only[Option.some.injEq] at hb
   subst hb
   split at h
   ·simp[cn.live] at hl
   ·exact h.elim
  ·exact h.elim
 refine⟨hM.sw,hM.fw,hM.sf,fun ℓ' b hb=>?_,fun ℓ' B' hB'=>?_,fun x y B C b c h1 h2 h3 h4 h5 h6 hne=>?_,hM.gl⟩
 ·cases hf:aU lm ℓ' with
  |none=>unfold bJ at hb;rw[hf] at hb;cases hb
  |some x=>
   have:=List.all_eq_true.1 hk _ (fS hf)
   intro h
   simp only at this
   rw[h] at this;cases this
 ·have h:=mf hm ℓ' B' (iw hB')
  split at h
  ·rename_i ℓ hf
   have he:bJ lm ρ ℓ'=ρ ℓ:=by unfold bJ;rw[hf]
   unfold md at h
   split at h
   ·rename_i hML
    obtain⟨b,hb,hr⟩:=hM.blk _ _ hML
    exact⟨b,he.trans hb,trivial⟩
   ·exact h.elim
   ·rename_i t cs t' cs' hML
    split at h
    ·rename_i ht
     have:=Nat.eq_of_beq_eq_true ht
     subst this
     obtain⟨b,hb,vs,h1,h2,h3⟩:=hM.blk _ _ hML
     exact⟨b,he.trans hb,vs,h1,(km n).2 cs cs' _ h h2,h3⟩
    ·exact h.elim
   ·rename_i t α d enc l t' α' d' enc' l' hML
    obtain⟨b,hb,hr⟩:=hM.blk _ _ hML
    rw[h] at hr
    exact⟨b,he.trans hb,hr⟩
   ·rename_i α d enc l α' d' enc' l' hML
    obtain⟨b,hb,hr⟩:=hM.blk _ _ hML
    rw[h] at hr
    exact⟨b,he.trans hb,hr⟩
   ·rename_i s p s' p' hML
    obtain⟨rfl,rfl⟩:=h
    obtain⟨b,hb,hr⟩:=hM.blk _ _ hML
    exact⟨b,he.trans hb,hr⟩
   ·rename_i hML
    obtain⟨b,hb,hr⟩:=hM.blk _ _ hML
    rw[h] at hr
    exact⟨b,he.trans hb,hr⟩
   ·rename_i hML
    obtain⟨b,hb,hr⟩:=hM.blk _ _ hML
    rw[h] at hr
    exact⟨b,he.trans hb,hr⟩
   ·exact h.elim
  ·rename_i sz hf
   split at h
   ·subst h
    exact⟨⟨0,0,0,sz,true⟩,by unfold bJ;rw[hf],rfl,by simp, .inl ⟨rfl,rfl,rfl⟩⟩
   ·exact h.elim
  ·exact h.elim
 ·obtain⟨ℓ,B0,f1,m1,r1,l1⟩:=live x B h1 b h3 h5
  obtain⟨ℓ2,C0,f2,m2,r2,l2⟩:=live y C h2 c h4 h6
  refine hM.inj ℓ ℓ2 B0 C0 b c m1 m2 r1 r2 l1 l2 fun e=>?_
  subst e
  exact hne (uo ho (iP (mg h1 h5) f1) (iP (mg h2 h6) f2))
end
def gk (L:List (Nat×cn)) (M:aj):aj:=fun ℓ=>match aj.ofL L ℓ with
 |some B=>some B
 |none=>M ℓ
def uq (lm lb:cT):Bool:=lm.all fun p=>match p.2 with
 | .old ℓ=>(match aU lb ℓ with|some (.old m)=>Nat.beq m p.1|_=>false)
 | .nil _=>true
def nc (lm lb:cT) (M:aj):Bool:=lb.all fun p=>(lm.any fun q=>match q.2 with| .old ℓ=>Nat.beq ℓ p.1| .nil _=>false)||(M p.1).isNone
section
variable {S F F2:ai} {ρ:aD} {M:aj} {w:World} {P:Program}
theorem eY.reF {b:eQ} {B:cn} (h:eY S F ρ w b B) (hf:B.live b->F2 b.blk=none):eY S F2 ρ w b B:=by
 cases B with
 |box t cells=>obtain⟨vs,h1,h2,h3,h4⟩:=h;exact⟨vs,h1,h2,h3,hf trivial⟩
 |row t d enc l=>
  obtain⟨h1,h2,h3⟩:=h
  exact⟨h1,h2,h3.imp id fun⟨hn,hc,vs,h4,h5,h6,h7,h8⟩=>⟨hn,hc,vs,h4,h5,h6,h7,hf hn⟩⟩
 |gone d enc l=>exact h
 |iter s pos=>exact⟨h.1,h.2.1,hf trivial⟩
 |map ek ev l=>obtain⟨es,ck,h1,h2,h3,h4⟩:=h;exact⟨es,ck,h1,h2,h3,hf trivial⟩
 |obj o=>exact⟨h.1,h.2.1,hf trivial⟩
 |hdr t g m=>
  obtain⟨l,hlm,hg,h1,h2,h3⟩:=h
  exact⟨l,hlm,hg,h1,h2,h3.imp id fun⟨hn,hc,vs,h4,h5,h6,h7,h8⟩=>⟨hn,hc,vs,h4,h5,h6,h7,hf hn⟩⟩
 |dead=>trivial
theorem aF.reF (hM:aF S F ρ M w) (h1:F2.inW w) (h2:∀k,S k=none\/F2 k=none) (h3:∀ℓ B b,M ℓ=some B->ρ ℓ=some b->B.live b->F2 b.blk=none):aF S F2 ρ M w:=
 ⟨hM.sw,h1,h2,hM.dom,fun ℓ B hB=>let ⟨b,hb,hr⟩:=hM.blk ℓ B hB;⟨b,hb,hr.reF (h3 ℓ B b hB hb)⟩,hM.inj,hM.gl⟩
theorem lu:∀{lm:cT},xP lm=true->∀{ℓ:Nat} {x:LM},(ℓ,x)∈lm->aU lm ℓ=some x
 |[],_,_,_,h=>by cases h
 |(k,y)::r,hd,ℓ,x,h=>by
  simp only[xP,Bool.and_eq_true] at hd
  simp only[aU]
  rcases List.mem_cons.1 h with e|h
  ·injection e with e1 e2;subst e1;subst e2;simp
  ·have:=List.all_eq_true.1 hd.1 _ h
   simp only[Bool.not_eq_true'] at this
   have hne:Nat.beq k ℓ=false:=by
    cases hb:Nat.beq k ℓ
    ·rfl
    ·have:=Nat.eq_of_beq_eq_true hb;subst this;simp at*
   rw[hne]
   exact lu hd.2 h
theorem ak.call {f:FuncId} {args args':List AV} {K R:AV->aj->Prop} (lm:cT) (L:List (Nat×cn)) (n:Nat) (hs:(i7 lm L&&i8 L lm&&xP lm)=true) (hm:cU lm n M L) (ha:ij lm n args args')
  (h:ak P f args' (aj.ofL L) R)
  (hk:∀u M',R u M'->∃(lb:cT) (L2:List (Nat×cn)) (u':AV),(i7 lb L2&&i8 L2 lb&&uq lm lb&&nc lm lb M)=true/\cU lb n M' L2/\jr lb n u u'/\K u' (gk L2 M)):ak P f args M K:=by
 rw[cr] at h⊢
 refine⟨h.1,fun S F ρ vs w hM hv=>?_⟩
 simp only[Bool.and_eq_true] at hs
 obtain⟨⟨hs1,hs2⟩,hs3⟩:=hs
 let own:Nat->Prop:=fun ℓ=>∃ℓ',aU lm ℓ'=some (.old ℓ)
 have hMr:=hM.relabel hm hs1 hs2
 have hlive:∀ℓ' B' b,aj.ofL L ℓ'=some B'->bJ lm ρ ℓ'=some b->B'.live b->fv F ρ M w own b.blk=none:=by
  intro ℓ' B' b hB' hb hl
  obtain⟨b',hb',hr'⟩:=hMr.blk _ _ hB'
  rw[hb] at hb';cases hb'
  have hFb:=(hr'.off hl).2
  have hh:=mf hm ℓ' B' (iw hB')
  unfold bJ at hb
  cases hf:aU lm ℓ' with
  |none=>rw[hf] at hb;cases hb
  |some x=>
   rw[hf] at hb hh
   cases x with
   |nil sz=>
    simp only[Option.some.injEq] at hb
    subst hb
    simp only at hh
    split at hh
    ·simp[cn.live] at hl
    ·exact hh.elim
   |old ℓ=>
    simp only at hb hh
    have hB:∃B,M ℓ=some B/\B.live b:=by
     unfold md at hh
     split at hh
     ·exact hl.elim
     ·exact hh.elim
     ·rename_i hML;exact⟨_,hML,trivial⟩
     ·rename_i hML;exact⟨_,hML,by rw[hh];exact hl⟩
     ·exact hl.elim
     ·rename_i hML;exact⟨_,hML,trivial⟩
     ·rename_i hML;exact⟨_,hML,trivial⟩
     ·rename_i hML;exact⟨_,hML,trivial⟩
     ·exact hh.elim
    obtain⟨B,hML,hBl⟩:=hB
    unfold fv
    rw[if_neg]
    ·exact hFb
    ·rintro⟨y,C,c,h1,h2,h3,h4,h5⟩
     refine hM.inj y ℓ C B c b h1 hML h2 hb h3 hBl (fun e=>?_) h4
     subst e
     exact h5 ⟨ℓ',hf⟩
 have hMc:=hMr.reF (na (own:=own) hM) (pf hM) hlive
 refine(h.2 S (fv F ρ M w own) (bJ lm ρ) vs w hMc ((km n).2 args args' vs ha hv)).mono ?_
 rintro e w' ⟨v,u,M',S',ρ',rfl,hR,hle,hρ,hM',hr,hw⟩
 obtain⟨lb,L2,u',hb,hm2,hau,hK⟩:=hk u M' hR
 simp only[Bool.and_eq_true] at hb
 obtain⟨⟨⟨hb1,hb2⟩,hb3⟩,hb4⟩:=hb
 have hM2:=hM'.relabel hm2 hb1 hb2
 let ρ2:aD:=fun ℓ=>match bJ lb ρ' ℓ with
  |some b=>some b
  |none=>ρ ℓ
 have hle1:aD.le (bJ lb ρ') ρ2:=fun ℓ b hb=>by show(match bJ lb ρ' ℓ with|some b=>some b|none=>ρ ℓ)=_;rw[hb]
 have hback:∀ℓ ℓ',aU lm ℓ'=some (.old ℓ)->aU lb ℓ=some (.old ℓ'):=by
  intro ℓ ℓ' hf
  have:=List.all_eq_true.1 hb3 _ (fS hf)
  simp only at this
  split at this
  ·rename_i m hm'
   rw[hm',Nat.eq_of_beq_eq_true this]
  ·cases this
 have hle2:aD.le ρ ρ2:=by
  intro ℓ b hb
  show(match bJ lb ρ' ℓ with|some b=>some b|none=>ρ ℓ)=_
  cases hf:aU lb ℓ with
  |none=>
   have:bJ lb ρ' ℓ=none:=by unfold bJ;rw[hf]
   rw[this];exact hb
  |some x=>
   have:=List.all_eq_true.1 hb4 _ (fS hf)
   simp only[Bool.or_eq_true] at this
   rcases this with h1|h1
   ·obtain⟨q,hq,hq2⟩:=List.any_eq_true.1 h1
    obtain⟨k,y⟩:=q
    cases y with
    |nil _=>cases hq2
    |old m=>
     simp only at hq2
     have:=Nat.eq_of_beq_eq_true hq2
     subst this
     have hfl:=lu hs3 hq
     have hbk:=hback _ _ hfl
     have he:bJ lm ρ k=some b:=by unfold bJ;rw[hfl];exact hb
     have h2:bJ lb ρ' m=some b:=by unfold bJ;rw[hbk];exact hρ _ _ he
     rw[h2]
   ·exfalso
    have hn:M ℓ=none:=by cases hh:M ℓ with
     |none=>rfl
     |some B=>simp[hh] at h1
    exact hM.dom ℓ b hb hn
 have hF:∀k o,F k=some o->fv F ρ M w own k=some o:=kj hM
 have framed:∀ℓ B b,aj.ofL L2 ℓ=none->M ℓ=some B->ρ ℓ=some b->B.live b->fv F ρ M w own b.blk=w.heap[b.blk]?:=by
  intro ℓ B b h0 h1 h2 h3
  refine lG h1 h2 h3 fun⟨ℓ',hf⟩=>?_
  have:=List.all_eq_true.1 hb1 _ (fS (hback _ _ hf))
  simp only at this
  rw[h0] at this;cases this
 refine⟨v,u',gk L2 M,S',ρ2,rfl,hK,hle,hle2,⟨hM'.sw,fun k o hk=>hM'.fw k o (hF k o hk),fun k=>?_,fun ℓ b hb=>?_,fun ℓ B hB=>?_,fun x y B C b c h1 h2 h3 h4 h5 h6 hne=>?_,hM'.gl⟩,((km n).1 u u' v hau hr).mono (ai.le_refl _) hle1,hw⟩
 ·rcases hM'.sf k with h1|h1
  ·exact .inl h1
  ·right
   cases hk:F k with
   |none=>rfl
   |some o=>rw[hF k o hk] at h1;cases h1
 ·unfold gk
  cases h2:aj.ofL L2 ℓ with
  |some B=>simp
  |none=>
   have hb:(match bJ lb ρ' ℓ with|some b=>some b|none=>ρ ℓ)=some b:=hb
   cases h3:bJ lb ρ' ℓ with
   |some b'=>exact absurd h2 (hM2.dom _ _ h3)
   |none=>rw[h3] at hb;exact hM.dom _ _ hb
 ·unfold gk at hB
  cases h2:aj.ofL L2 ℓ with
  |some B'=>
   rw[h2] at hB
   cases hB
   obtain⟨b,hb,hr2⟩:=hM2.blk _ _ h2
   refine⟨b,hle1 _ _ hb,(hr2.keep (ai.le_refl _) hle1 fun _=>⟨rfl,rfl⟩).reF fun hl=>?_⟩
   have:=(hr2.off hl).2
   cases hk:F b.blk with
   |none=>rfl
   |some o=>rw[hF _ o hk] at this;cases this
  |none=>
   rw[h2] at hB
   obtain⟨b,hb,hr2⟩:=hM.blk _ _ hB
   refine⟨b,hle2 _ _ hb,hr2.keep hle hle2 fun hl=>?_⟩
   have hk:=framed ℓ B b h2 hB hb hl
   obtain⟨o,ho⟩:∃o,w.heap[b.blk]? =some o:=⟨_,Array.getElem?_eq_getElem (hr2.lt hl)⟩
   refine⟨by rw[hM'.fw _ o (hk.trans ho),ho],?_⟩
   rw[(hr2.off hl).1]
   rcases hM'.sf b.blk with h1|h1
   ·exact h1
   ·rw[hk,ho] at h1;cases h1
 ·have back:∀z D d,gk L2 M z=some D->ρ2 z=some d->D.live d->(aj.ofL L2 z=some D/\bJ lb ρ' z=some d)\/(aj.ofL L2 z=none/\M z=some D/\ρ z=some d):=by
   intro z D d hD hd hl
   unfold gk at hD
   cases hz:aj.ofL L2 z with
   |some D'=>
    rw[hz] at hD;cases hD
    obtain⟨b',hb',_⟩:=hM2.blk _ _ hz
    have:=hle1 _ _ hb'
    rw[hd] at this;cases this
    exact .inl ⟨rfl,hb'⟩
   |none=>
    rw[hz] at hD
    obtain⟨b',hb',_⟩:=hM.blk _ _ hD
    have:=hle2 _ _ hb'
    rw[hd] at this;cases this
    exact .inr ⟨rfl,hD,hb'⟩
  have mixed:∀z D d z' D' d',aj.ofL L2 z=some D->bJ lb ρ' z=some d->D.live d->aj.ofL L2 z'=none->M z'=some D'->ρ z'=some d'->D'.live d'->d.blk≠d'.blk:=by
   intro z D d z' D' d' a1 a2 a3 a4 a5 a6 a7 e
   obtain⟨b',hb',hr2⟩:=hM2.blk _ _ a1
   rw[a2] at hb';cases hb'
   have h1:=(hr2.off a3).2
   have h2:=framed z' D' d' a4 a5 a6 a7
   obtain⟨c',hc',hr3⟩:=hM.blk _ _ a5
   rw[a6] at hc';cases hc'
   rw[e,h2,Array.getElem?_eq_getElem (hr3.lt a7)] at h1
   cases h1
  rcases back x B b h1 h3 h5 with ⟨p1,p2⟩|⟨p0,p1,p2⟩<;>rcases back y C c h2 h4 h6 with ⟨q1,q2⟩|⟨q0,q1,q2⟩
  ·exact hM2.inj x y B C b c p1 q1 p2 q2 h5 h6 hne
  ·exact mixed x B b y C c p1 p2 h5 q0 q1 q2 h6
  ·exact fun e=>mixed y C c x B b q1 q2 h6 p0 p1 p2 h5 e.symm
  ·exact hM.inj x y B C b c p1 q1 p2 q2 h5 h6 hne
def jt (ℓ:Nat) (u:AV):AV->AV
 | .row ℓ' n sz=>match Nat.beq ℓ' ℓ with|true=>u|false=> .row ℓ' n sz
 |v=>v
theorem ju {ℓ:Nat} {α:Type} {d:α} {enc:α->List AV} {l:List α} (hM:aF S F ρ M w) (hl:M ℓ=some (.gone d enc l)) {v:Value} {u:AV} (h:RV S ρ v u):RV S ρ v (jt ℓ (.sl d enc l) u):=by
 unfold jt
 split
 ·rename_i ℓ' n sz
  split
  ·rename_i hb
   have:=Nat.eq_of_beq_eq_true hb
   subst this
   obtain⟨b,hb,_,_,_,rfl⟩:=h.row_inv
   obtain⟨b',hb',_,hr⟩:=hM.blk _ _ hl
   rw[hb] at hb';cases hb'
   exact .p hr
  ·exact h
 ·exact h
def AX (ℓ:Nat) (u:AV):AV->AV
 | .agg cs=> .agg (cs.map (jt ℓ u))
 |v=>jt ℓ u v
theorem AY {ℓ:Nat} {α:Type} {d:α} {enc:α->List AV} {l:List α} (hM:aF S F ρ M w) (hl:M ℓ=some (.gone d enc l)) {v:Value} {u:AV} (h:RV S ρ v u):RV S ρ v (AX ℓ (.sl d enc l) u):=by
 unfold AX
 split
 ·rename_i cs
  obtain⟨vs,rfl,hr⟩:=h.agg_inv
  have:bj S ρ vs.toList (cs.map (jt ℓ (.sl d enc l))):=⟨by simpa using hr.1,fun i u hu=>by
   rw[List.getElem?_map] at hu
   obtain⟨u0,h0,rfl⟩:=Option.map_eq_some_iff.1 hu
   obtain⟨v,hv,hvr⟩:=hr.2 i u0 h0
   exact⟨v,hv,ju hM hl hvr⟩⟩
  have:=RV.agg_mk this
  simpa using this
 ·exact ju hM hl h
theorem ak.hand {f:FuncId} {args:List AV} {R:AV->aj->Prop} (ℓ:Nat) {t:TypeId} {α:Type} {d:α} {enc:α->List AV} {l:List α} (hl:M ℓ=some (.row t d enc l))
  (h:ak P f (args.map (jt ℓ (.sl d enc l))) (M.set ℓ (.gone d enc l)) R):ak P f args M R:=by
 refine ak.leak hl (ak.weaken h fun S F ρ vs w hM hv=>⟨by simpa using hv.1,fun i u hu=>?_⟩)
 rw[List.getElem?_map] at hu
 obtain⟨u0,h0,rfl⟩:=Option.map_eq_some_iff.1 hu
 obtain⟨v,e,hr⟩:=hv.2 i u0 h0
 exact⟨v,e,ju hM (aj.set_eq _ _ _) hr⟩
end
end Go.Proofs.YtnjggjhkfncnlaaGreatDoor
namespace Go.Proofs.YtnjggjhkfncnlaaGreatDoor
def sC:List AV->Nat->(AV->Prop)->Prop
 |[],_,k=>k .top
 |v::_,0,k=>k v
 |_::l,n+1,k=>sC l n k
theorem kU:∀(l:List AV) (n:Nat) (k:AV->Prop),sC l n k=k (l.getD n .top)
 |[],_,_=>by simp[sC]
 |_::_,0,_=>by simp[sC]
 |_::l,n+1,k=>by rw[sC,kU l n k];simp
def lg:List AV->Nat->AV->(List AV->Prop)->Prop
 |[],_,_,k=>k []
 |_::l,0,v,k=>k (v::l)
 |x::l,n+1,v,k=>lg l n v fun l'=>k (x::l')
theorem sD:∀(l:List AV) (n:Nat) (v:AV) (k:List AV->Prop),lg l n v k=k (l.set n v)
 |[],_,_,_=>by simp[lg]
 |_::_,0,_,_=>by simp[lg]
 |_::l,n+1,v,k=>by rw[lg,sD l n v];simp
def lh (fr:List AV) (d:Option Tmp) (u:AV) (k:List AV->Prop):Prop:=
 match d with
 |some d=>lg fr d u k
 |none=>k fr
def cB (fr:List AV) (d:Option Tmp) (u:AV):List AV:=
 match d with
 |some d=>fr.set d u
 |none=>fr
theorem eT (fr:List AV) (d:Option Tmp) (u:AV) (k:List AV->Prop):lh fr d u k=k (cB fr d u):=by
 cases d<;>simp[lh,cB,sD]
def wu (v:Value) (k:AV->Prop):Prop:=
 match v with
 | .int i n=>k (.int i n)
 | .bool b=>k (.bool b)
 | .string s=>k (.str s)
 | .slice none 0 0=>k .nilsl
 |v=>k (.val v)
theorem y9 (v:Value) (k:AV->Prop):wu v k=k (cO v):=by
 unfold wu cO
 split<;>simp
def JR (fr:List AV) (x:Operand) (k:AV->Prop):Prop:=
 match x with
 | .tmp t=>sC fr t k
 | .const v=>wu v k
 | .func f=>k (.fn f [])
 | .global g=>k (.val (.pointer (some ⟨g,0,none⟩)))
def db (fr:List AV):Operand->AV
 | .tmp t=>fr.getD t .top
 | .const v=>cO v
 | .func f=> .fn f []
 | .global g=> .val (.pointer (some ⟨g,0,none⟩))
theorem sE (fr:List AV) (x:Operand) (k:AV->Prop):JR fr x k=k (db fr x):=by
 cases x<;>simp[JR,db,kU,y9]
def wv (fr:List AV):List Operand->(List AV->Prop)->Prop
 |[],k=>k []
 |x::xs,k=>JR fr x fun u=>wv fr xs fun us=>k (u::us)
theorem eU (fr:List AV):∀(xs:List Operand) (k:List AV->Prop),wv fr xs k=k (xs.map (db fr))
 |[],_=>rfl
 |x::xs,k=>by rw[wv,sE,eU fr xs];rfl
def AZ:List AV->List AV->(List AV->Prop)->Prop
 |[],r,k=>k r
 |x::l,r,k=>AZ l r fun l'=>k (x::l')
theorem mh:∀(l r:List AV) (k:List AV->Prop),AZ l r k=k (l++r)
 |[],_,_=>rfl
 |x::l,r,k=>by rw[AZ,mh l r];rfl
structure pg (P:Program) (f:FuncId) (args:List AV) (K:AV->Prop):Prop where
 out:∃R n,ab P f args R/\args.all (cJ n)=true/\(∃u,R u)/\∀u,R u->K u
theorem dW {P:Program} {f:FuncId} {args:List AV} {K:AV->Prop}:pg P f args K↔(∃R n,ab P f args R/\args.all (cJ n)=true/\(∃u,R u)/\∀u,R u->K u):=⟨fun h=>h.out,fun h=>⟨h⟩⟩
theorem A0 {P:Program} {f:FuncId} {args:List AV} {K:AV->Prop} {R:AV->Prop} (n:Nat) (h:ab P f args R) (hp:args.all (cJ n)=true) (he:∃u,R u) (hk:∀u,R u->K u):pg P f args K:=by
 rw[dW];exact⟨R,n,h,hp,he,hk⟩
inductive aM
 |any
 |rows
 |pers
 |fresh
 |flat
 |own
 |boxes (as:List (Nat×Nat))
structure jS (P:Program) (f:FuncId) (args:List AV) (M:aj) (K:AV->aj->Prop):Prop where
 out:∃(R:AV->aj->Prop) (n:Nat) (lb:cT) (L2:List (Nat×cn)) (u':AV),ak P f args (aj.ofL []) R/\ij [] n args args/\(i7 lb L2&&i8 L2 lb&&uq [] lb&&nc [] lb M)=true/\L2.all (fun p=>(M p.1).isNone)=true/\
  (∀u M',R u M'->cU lb n M' L2/\jr lb n u u')/\K u' (gk L2 M)
theorem jS.spec {P:Program} {f:FuncId} {args:List AV} {M:aj} {K:AV->aj->Prop} (h:jS P f args M K):ak P f args M K:=by
 obtain⟨R,n,lb,L2,u',hs,ha,hb,hf,hr,hk⟩:=h.out
 exact ak.call [] [] n rfl trivial ha hs fun u M' hR=>⟨lb,L2,u',hb,(hr u M' hR).1,(hr u M' hR).2,hk⟩
theorem jS.mono {P:Program} {f:FuncId} {args:List AV} {M:aj} {K K':AV->aj->Prop} (h:jS P f args M K) (hk:∀u M',K u M'->K' u M'):jS P f args M K':=by
 obtain⟨R,n,lb,L2,u',hs,ha,hb,hf,hr,hK⟩:=h.out
 exact⟨R,n,lb,L2,u',hs,ha,hb,hf,hr,hk _ _ hK⟩
theorem ur:∀{L:List (Nat×cn)} {p:Nat×cn},p∈L->aj.ofL L p.1≠none
 |[],_,h=>by cases h
 |(k,B)::r,p,h=>by
  simp only[aj.ofL]
  split
  ·simp
  ·rename_i hk
   rcases List.mem_cons.1 h with e|h
   ·have e1:p.1=k:=by rw[e]
    rw[e1,Nat.beq_refl] at hk
    cases hk
   ·exact ur h
theorem za {L:List (Nat×cn)} {M:aj} {d:Nat} (B:cn) (h:aj.ofL L d=none):gk L (M.set d B)=(gk L M).set d B:=by
 funext x
 by_cases e:x=d
 ·subst e;rw[aj.set_eq];unfold gk;rw[h,aj.set_eq]
 ·rw[aj.set_ne _ _ e];unfold gk;rw[aj.set_ne _ _ e]
theorem jS.beside {P:Program} {f:FuncId} {args:List AV} {M:aj} {K:AV->aj->Prop} {d:Nat} {B:cn} (h:jS P f args M fun u M1=>M1 d=none/\K u (M1.set d B)):M d=none/\jS P f args (M.set d B) K:=by
 obtain⟨R,n,lb,L2,u',hs,ha,hb,hf,hr,hd,hk⟩:=h.out
 have hL:aj.ofL L2 d=none:=by
  cases hh:aj.ofL L2 d with
  |none=>rfl
  |some B'=>unfold gk at hd;rw[hh] at hd;cases hd
 have hMd:M d=none:=by unfold gk at hd;rw[hL] at hd;exact hd
 simp only[Bool.and_eq_true] at hb
 obtain⟨⟨⟨hb1,hb2⟩,hb3⟩,hb4⟩:=hb
 have far:∀k,aj.ofL L2 k≠none->(M k).isNone=true->((M.set d B) k).isNone=true:=by
  intro k h1 h2
  rw[aj.set_ne _ _ (fun e=>h1 (by rw[e];exact hL))]
  exact h2
 refine⟨hMd,⟨R,n,lb,L2,u',hs,ha,?_,?_,hr,?_⟩⟩
 ·simp only[Bool.and_eq_true]
  refine⟨⟨⟨hb1,hb2⟩,hb3⟩,?_⟩
  unfold nc at hb4⊢
  rw[List.all_eq_true] at hb4⊢
  intro p hp
  have:=hb4 p hp
  simp only[List.any_nil,Bool.false_or] at this⊢
  have hkey:=List.all_eq_true.1 hb1 p hp
  exact far _ (fun e=>by rw[e] at hkey;cases hkey) this
 ·rw[List.all_eq_true] at hf⊢
  intro p hp
  exact far _ (ur hp) (hf p hp)
 ·rw[za B hL];exact hk
def KF:List (Nat×Nat)->Nat->Option Nat
 |[],_=>none
 |(t,ℓ)::r,n=>match Nat.beq n t with
  |true=>some ℓ
  |false=>KF r n
def gF (as:List (Nat×Nat)):Operand->Option Nat
 | .tmp t=>KF as t
 |_=>none
def rh (as:List (Nat×Nat)) (x:Operand):AV->Bool
 | .ptr ℓ _=>match gF as x with
  |some ℓ'=>Nat.beq ℓ ℓ'
  |none=>false
 |_=>false
def ut (r:aM) (P:Program) (f:FuncId) (args:List AV) (M:aj) (K:AV->aj->Prop):Prop:=
 match r with
 | .fresh=>jS P f args M K
 | .own=>ak P f args M K
 |_=>pg P f args fun u=>K u M
def ww:aM->Bool
 | .flat=>true
 |_=>false
def fx:aM->Bool
 | .own=>true
 |_=>false
def bZ:aM->Bool
 | .fresh=>true
 |_=>false
theorem iy {r:aM} (h:bZ r=true) (P:Program) (f:FuncId) (args:List AV) (M:aj) (K:AV->aj->Prop):ut r P f args M K=jS P f args M K:=by
 cases r<;>first|rfl|cases h
theorem xQ {r:aM} (h:fx r=true) (P:Program) (f:FuncId) (args:List AV) (M:aj) (K:AV->aj->Prop):ut r P f args M K=ak P f args M K:=by
 cases r<;>first|rfl|cases h
theorem iz {r:aM} (h:bZ r=false) (ho:fx r=false) (P:Program) (f:FuncId) (args:List AV) (M:aj) (K:AV->aj->Prop):ut r P f args M K=pg P f args fun u=>K u M:=by
 cases r<;>first|rfl|exact absurd h (by decide)|exact absurd ho (by decide)
def kV (draw:Option aM) (tt:TT) (op:Op) (us:List AV) (M:aj):Rs:=
 match draw with
 |some .rows=>match op with
  | .load t _=>match us with
   |[.rel _ _ _]=> .no
   |[x]=>fp tt t M x
   |_=> .no
  |op=>qC tt op us
 |some .pers=>match op with
  | .load t _=>match us with
   |[.pd cells]=>e7 tt t cells
   |_=> .no
  |op=>qC tt op us
 |some .fresh=>match op with
  | .load t _=>match us with
   |[.pd cells]=>e7 tt t cells
   |_=> .no
  |op=>qC tt op us
 |some (.boxes as)=>match op with
  | .load t x=>match gF as x with
   |none=>match us with
    |[.pd cells]=>e7 tt t cells
    |_=> .no
   |some _=>match us with
    |[a]=>match rh as x a with
     |true=>q6 tt (.load t x) [a] M
     |false=> .no
    |_=> .no
  |op=>qC tt op us
 |_=>q6 tt op us M
def dB (draw:Option aM) (tt:TT) (t:TypeId) (p:Operand) (us:List AV) (M:aj) (K:aj->Prop):Prop:=
 match draw with
 |some .rows=>match us with
  |[.rel ℓ j o,x]=>match bL x with
   |some cs=>match cd cs with
    |true=>eo tt t [.rel ℓ j o,x] M K
    |false=>False
   |none=>False
  |_=>False
 |some (.boxes as)=>match us with
  |[a,x]=>match rh as p a with
   |true=>eo tt t [a,x] M K
   |false=>False
  |_=>False
 |_=>eo tt t us M K
theorem zb {draw:Option aM} {tt:TT} {t:TypeId} {p:Operand} {us:List AV} {M:aj} {K:aj->Prop} (h:dB draw tt t p us M K):eo tt t us M K:=by
 unfold dB at h
 split at h
 ·split at h
  ·split at h
   ·split at h
    ·exact h
    ·exact h.elim
   ·exact h.elim
  ·exact h.elim
 ·split at h
  ·split at h
   ·exact h
   ·exact h.elim
  ·exact h.elim
 ·exact h
theorem jv (draw:Option aM) (tt:TT) (op:Op) (us:List AV) (M:aj):kV draw tt op us M= .no\/kV draw tt op us M=q6 tt op us M:=by
 have other:∀(op:Op),(∀t x,op= .load t x->False)->qC tt op us=q6 tt op us M:=by
  intro op h
  unfold q6
  split
  ·rename_i t x;exact absurd rfl (h t x)
  ·rfl
 unfold kV
 split
 ·split
  ·split
   ·exact .inl rfl
   ·exact .inr rfl
   ·exact .inl rfl
  ·rename_i h
   exact .inr (other _ h)
 ·split
  ·split
   ·exact .inr rfl
   ·exact .inl rfl
  ·rename_i h
   exact .inr (other _ h)
 ·split
  ·split
   ·exact .inr rfl
   ·exact .inl rfl
  ·rename_i h
   exact .inr (other _ h)
 ·split
  ·split
   ·split
    ·exact .inr rfl
    ·exact .inl rfl
   ·split
    ·split
     ·exact .inr rfl
     ·exact .inl rfl
    ·exact .inl rfl
  ·rename_i h
   exact .inr (other _ h)
 ·exact .inr rfl
structure nZ (u:AV) (M:aj) (K:AV->aj->Prop):Prop where
 out:K u M\/dA [u] M fun us M'=>match us with|[x]=>K x M'|_=>False
theorem cb {u:AV} {M:aj} {K:AV->aj->Prop} (h:K u M):nZ u M K:=⟨.inl h⟩
theorem dE {u:AV} {M:aj} {K:AV->aj->Prop} (h:dA [u] M fun us M'=>match us with|[x]=>K x M'|_=>False):nZ u M K:=⟨.inr h⟩
theorem zc {u:AV} {M:aj} {K:AV->aj->Prop}:nZ u M K↔(K u M\/dA [u] M fun us M'=>match us with|[x]=>K x M'|_=>False):=⟨fun h=>h.out,fun h=>⟨h⟩⟩
def rj (draw:Option aM) (K:AV->aj->Prop):AV->aj->Prop:=
 match draw with
 |none=>K
 |some _=>fun u M=>nZ u M K
def sF (tt:TT) (t:TypeId):Bool:=
 match tt.find t with
 |some ⟨_,_, .slice e,_⟩=>match tt.find e with
  |some ⟨_,_, .int _,_⟩=>true
  |some ⟨_,_, .bool,_⟩=>true
  |some ⟨_,_, .string,_⟩=>true
  |_=>false
 |_=>false
def zd:AV->Bool
 | .row _ _ _=>false
 |_=>true
def xR:List AV->Bool
 |[]=>true
 |u::us=>match zd u with|true=>xR us|false=>false
def FX:AV->Bool
 | .row _ _ _=>false
 | .agg cs=>xR cs
 |_=>true
def kW:List AV->Bool
 |[]=>true
 |u::us=>match FX u with|true=>kW us|false=>false
def uu:List Operand->Bool
 | .const (.slice none 0 0)::_=>true
 |_=>false
def ne (draw:Option aM) (tt:TT) (t:TypeId) (len:Nat) (is:List Nat) (us:List AV) (dst:Option Tmp) (M:aj) (K:AV->aj->Prop):Prop:=
 match draw with
 |none=>ep tt t len is us dst M K
 |some r=>match (match ww r with|true=>true|false=>sF tt t) with
  |true=>match kW us with
   |true=>ep tt t len is us dst M (rj (some r) K)
   |false=>False
  |false=>ep tt t len is us dst M (rj (some r) K)
theorem rk {draw:Option aM} {tt:TT} {t:TypeId} {len:Nat} {is:List Nat} {us:List AV} {dst:Option Tmp} {M:aj} {K:AV->aj->Prop} (h:ne draw tt t len is us dst M K):ep tt t len is us dst M (rj draw K):=by
 unfold ne at h
 cases draw with
 |none=>exact h
 |some r=>
  simp only at h
  split at h
  ·split at h
   ·exact h
   ·exact h.elim
  ·exact h
def wx (draw:Option aM) (tt:TT) (args:List Operand) (ts:List TypeId) (us:List AV) (dst:Option Tmp) (M:aj) (K:AV->aj->Prop):Prop:=
 match draw with
 |some .fresh=>match uu args with
  |true=>match us with
   |[.nilsl, .sl d enc l]=>jR tt ts [.nilsl, .sl d enc l] dst M K
   |_=>False
  |false=>jR tt ts us dst M K
 |_=>jR tt ts us dst M K
theorem xS {draw:Option aM} {tt:TT} {args:List Operand} {ts:List TypeId} {us:List AV} {dst:Option Tmp} {M:aj} {K:AV->aj->Prop} (h:wx draw tt args ts us dst M K):jR tt ts us dst M K:=by
 unfold wx at h
 split at h
 ·split at h
  ·split at h
   ·exact h
   ·exact h.elim
  ·exact h
 ·exact h
def bc (P:Program) (tt:TT) (draw:Option aM) (o:Oper) (us:List AV) (M:aj) (K:AV->aj->Prop):Prop:=
 match o.op with
 | .store t p _=>match draw with
  |none=>wm tt t us M fun M'=>K (.tup []) M'
  |some _=>dB draw tt t p us M fun M'=>K (.tup []) M'
 | .alloc t=>iM tt t o.dst M K
 | .box t _=>AD t us o.dst M K
 | .makeSlice t _ _=>match draw with
  |none=>J3 (lp tt t us o.dst M K) tt t us M K
  |some _=>lp tt t us o.dst M K
 | .range t _=>o7 tt t us o.dst M K
 | .next _ str=>ue str us M K
 | .slice t _ lo hi mx=>match draw with
  |none=>match lo,hi,mx,us with
   |none,some _,none,[.row ℓ n sz, .int _ b]=>wt (sq tt t ℓ n sz b o.dst M K) (xM tt t ℓ n sz 0 b M K)
   |some _,none,none,[.row ℓ n sz, .int _ a]=>xM tt t ℓ n sz a n M K
   |_,_,_,_=>fQ (q6 tt o.op us M) fun u=>K u M
  |some _=>fQ (kV draw tt o.op us M) fun u=>K u M
 | .convert s d _=>match draw with
  |none=>match us with
   |[.row ℓ _ _]=>GI tt s d ℓ M K
   |_=>fQ (q6 tt o.op us M) fun u=>K u M
  |some _=>fQ (kV draw tt o.op us M) fun u=>K u M
 | .makeMap _ r=>match draw,r with
  |none,none=>GG o.dst M K
  |_,_=>fQ (kV draw tt o.op us M) fun u=>K u M
 | .lookup t _ _ ok=>match draw with
  |none=>AU P tt t ok us M K
  |some _=>fQ (kV draw tt o.op us M) fun u=>K u M
 | .mapUpdate t _ _ _=>match draw with
  |none=>GH P tt t us M fun M'=>K (.tup []) M'
  |some _=>fQ (kV draw tt o.op us M) fun u=>K u M
 | .buildSlice t len ps=>match draw with
  |none=>GB (ne none tt t len (ps.toList.map (·.1)) us o.dst M K) tt t len (ps.toList.map (·.1)) us o.dst M K
  |some _=>ne draw tt t len (ps.toList.map (·.1)) us o.dst M K
 | .call c=>match c.callee with
  | .value _=>match us with
   | .fn f caps::args=>match draw with
    |none=>AZ args caps fun l=>ak P f l M K
    |some r=>AZ args caps fun l=>ut r P f l M K
   |_=>False
  | .builtin .append=>match draw with
   |none=>GA (wx none tt c.args.toList c.argTypes.toList us o.dst M K) tt c.argTypes.toList us o.dst M K
   |some _=>wx draw tt c.args.toList c.argTypes.toList us o.dst M K
  | .builtin .copy=>match draw with
   |none=>AH tt c.argTypes.toList us M K
   |some _=>fQ (kV draw tt o.op us M) fun u=>K u M
  |_=>fQ (kV draw tt o.op us M) fun u=>K u M
 |_=>fQ (kV draw tt o.op us M) fun u=>K u M
section
variable {S F:ai} {ρ:aD} {M:aj} {w:World} {P:Program} {tt:TT}
theorem eZ.eval {a:Act} {fr:List AV} (h:eZ S ρ a fr) (x:Operand):RV S ρ (a.eval x) (db fr x):=by
 cases x with
 |tmp t=>
  simp only[Act.eval,db]
  by_cases ht:t<fr.length
  ·have hg:fr[t]? =some (fr.getD t .top):=by simp[List.getD,ht]
   obtain⟨v,hv,hr⟩:=h.1.2 t _ hg
   have:a.tmps.getD t undef=v:=by
    have hv':a.tmps[t]? =some v:=by simpa using hv
    simp[hv']
   rw[this];exact hr
  ·have:fr.getD t .top= .top:=by simp[List.getD,ht]
   rw[this];exact .p (.top _)
 |const v=>exact .p (i0 v)
 |func f=>exact RV.fn_mk f (bj.nil _ _)
 |global g=>exact .p (.val _)
theorem eZ.evals {a:Act} {fr:List AV} (h:eZ S ρ a fr):∀xs:List Operand,bj S ρ (xs.map a.eval) (xs.map (db fr))
 |[]=>bj.nil _ _
 |x::xs=>bj.cons (h.eval x) (eZ.evals h xs)
theorem bj.set_ {vs:List Value} {us:List AV} (h:bj S ρ vs us) (d:Nat) {v:Value} {u:AV} (hv:RV S ρ v u):bj S ρ (vs.set d v) (us.set d u):=by
 refine⟨by simp[h.1],fun i x hx=>?_⟩
 rw[List.getElem?_set] at hx⊢
 split at hx
 ·split at hx
  ·rename_i e hl
   subst e
   cases hx
   exact⟨v,by rw[if_pos rfl,if_pos (by rw[h.1];exact hl)],hv⟩
  ·simp at hx
 ·rename_i e
  obtain⟨y,hy,hr⟩:=h.2 i x hx
  exact⟨y,by rw[if_neg e];exact hy,hr⟩
theorem eZ.put {a:Act} {fr:List AV} (h:eZ S ρ a fr) (d:Option Tmp) {v:Value} {u:AV} (hv:RV S ρ v u):eZ S ρ (a.put d v) (cB fr d u):=by
 cases d with
 |none=>exact h
 |some d=>exact⟨by simpa[Act.put,cB] using h.1.set_ d hv,h.2⟩
theorem eZ.mono {S':ai} {ρ':aD} {a:Act} {fr:List AV} (h:eZ S ρ a fr) (hS:S.le S') (hρ:aD.le ρ ρ'):eZ S' ρ' a fr:=⟨h.1.mono hS hρ,h.2⟩
def cR (S F:ai) (ρ:aD) (w:World) (K:List AV->aj->Prop) (a:Act) (w':World):Prop:=
 ∃fr M' S' ρ',K fr M'/\S.le S'/\aD.le ρ ρ'/\aF S' F ρ' M' w'/\eZ S' ρ' a fr/\du w w'
theorem cR.trans {S':ai} {ρ':aD} {w' w'':World} {K:List AV->aj->Prop} {a:Act} (h:cR S' F ρ' w' K a w'') (hS:S.le S') (hρ:aD.le ρ ρ') (hw:du w w'):cR S F ρ w K a w'':=by
 obtain⟨fr,M',S2,ρ2,hk,h1,h2,h3,h4,h5⟩:=h
 exact⟨fr,M',S2,ρ2,hk,ai.le_trans hS h1,aD.le_trans hρ h2,h3,h4,hw.trans h5⟩
theorem cR.mono {K K':List AV->aj->Prop} {a:Act} {w':World} (h:cR S F ρ w K a w') (hk:∀fr M,K fr M->K' fr M):cR S F ρ w K' a w':=by
 obtain⟨fr,M',S2,ρ2,h0,h⟩:=h
 exact⟨fr,M',S2,ρ2,hk _ _ h0,h⟩
theorem A7 {o:Oper} {a:Act} {next:Act->World->Prop} {Q:Exit->Act->World->Prop} {m:Sem Value} {v:Value} {w':World} (he:execOp a.eval o=(do pure (.value (<-m)))) (h:m.run P w= .ok v w') (hn:next (a.put o.dst v) w'):
  o.wp P a w next Q:=by
 unfold Oper.wp;rw[he];simp only[Sem.run_bind,h,Result.andThen_ok,Sem.run_pure,Oper.upon];exact hn
theorem El (hT:bh P tt=true) {draw:Option aM} {o:Oper} {us:List AV} {a:Act} {K:AV->aj->Prop} {Q:Exit->Act->World->Prop} {fr:List AV} (h:bc P tt draw o us M K) (hM:aF S F ρ M w) (hF:eZ S ρ a fr)
  (hu:bj S ρ ((aJ o.op).map a.eval) us):o.wp P a w (cR S F ρ w (fun fr' M'=>∃u,K u M'/\fr'=cB fr o.dst u)) Q:=by
 have fin:∀{m:Sem Value},execOp a.eval o=(do pure (.value (<-m)))->cp P S F ρ w m K->o.wp P a w (cR S F ρ w (fun fr' M'=>∃u,K u M'/\fr'=cB fr o.dst u)) Q:=by
  intro m he ⟨v,u,M',S',ρ',w',hr,hK,h1,h2,h3,h4,h5⟩
  exact A7 he hr ⟨_,M',S',ρ',⟨u,hK,rfl⟩,h1,h2,h3,(hF.mono h1 h2).put _ h4,h5⟩
 have rs:∀{r:Rs},wd S ρ P w (execOp a.eval o) r->∀{r':Rs},(r'= .no\/r'=r)->fQ r' (fun u=>K u M)->o.wp P a w (cR S F ρ w (fun fr' M'=>∃u,K u M'/\fr'=cB fr o.dst u)) Q:=by
  intro r hr r' hr' hk
  rcases hr' with rfl|rfl
  ·exact hk.elim
  obtain⟨v,u,he,hv,hK⟩:=AC hk hr
  unfold Oper.wp
  rw[he]
  exact⟨_,M,S,ρ,⟨u,hK,rfl⟩,ai.le_refl _,aD.le_refl _,hM,hF.put _ hv,du.refl _⟩
 obtain⟨dst,op,ty,ps,af,gd⟩:=o
 unfold bc at h
 cases op with
 |store t x y=>
  have hL:ma P S F ρ w (Instr.storeAt t (a.eval x) (a.eval y)) (fun M'=>K (.tup []) M'):=by
   cases draw with
   |none=>exact y8 hT h hM hu
   |some r=>exact kR hT (va:=a.eval x) (vx:=a.eval y) (zb h) hM hu
  obtain⟨M',S',ρ',w',hr,hK,h1,h2,h3,h5⟩:=hL
  unfold Oper.wp
  have he:(execOp a.eval ⟨dst, .store t x y,ty,ps,af,gd⟩).run P w= .ok .skip w':=by
   simp only[execOp,Sem.run_bind,hr,Result.andThen_ok,Sem.run_pure]
  rw[he]
  refine⟨_,M',S',ρ',⟨_,hK,rfl⟩,h1,h2,h3,(hF.mono h1 h2).put _ ?_,h5⟩
  exact RV.tup_mk (bj.nil _ _)
 |alloc t=>exact fin rfl (y4 hT h hM)
 |range t x=>exact fin rfl (y5 (v:=a.eval x) hT h hM hu)
 |next x str=>exact fin rfl (AM (v:=a.eval x) h hM hu)
 |slice t x lo hi mx=>
  simp only at h
  split at h
  ·split at h
   ·rename_i y ℓ n sz k b
    obtain⟨v0,vs1,e,h0,hv1⟩:=hu.cons_inv
    obtain⟨v1,vs2,e',h1,hv2⟩:=hv1.cons_inv
    have hv2':=hv2.nil_inv
    subst hv2'
    subst e'
    simp only[aJ,Option.toList,List.nil_append,List.append_nil,List.map_cons,List.map_nil,List.cons.injEq,and_true] at e
    obtain⟨e1,e2⟩:=e
    have hi:=h1.int_inv
    rw[<-e2] at hi
    rw[<-e1] at h0
    rcases h.out with h|h
    ·have:=wq (P:=P) (k:=k) hT h hM h0
     rw[<-hi] at this
     exact fin rfl this
    ·exact fin rfl (un (P:=P) (kl:=k) (kh:=k) hT h hM h0 (.inr ⟨rfl,rfl⟩) (.inl (by rw[<-hi];rfl)))
   ·rename_i y ℓ n sz k b
    obtain⟨v0,vs1,e,h0,hv1⟩:=hu.cons_inv
    obtain⟨v1,vs2,e',h1,hv2⟩:=hv1.cons_inv
    have hv2':=hv2.nil_inv
    subst hv2'
    subst e'
    simp only[aJ,Option.toList,List.nil_append,List.append_nil,List.map_cons,List.map_nil,List.cons.injEq,and_true] at e
    obtain⟨e1,e2⟩:=e
    have hi:=h1.int_inv
    rw[<-e2] at hi
    rw[<-e1] at h0
    exact fin rfl (un (P:=P) (kl:=k) (kh:=k) hT h hM h0 (.inl (by rw[<-hi];rfl)) (.inr ⟨rfl,rfl⟩))
   ·exact rs (gT hT hM a.eval _ hu) (.inr rfl) h
  ·exact rs (gT hT hM a.eval _ hu) (jv _ tt _ _ _) h
 |box t x=>exact fin rfl (Ec (v:=a.eval x) h hM hu)
 |convert t d x=>
  simp only at h
  split at h
  ·split at h
   ·rename_i ℓ n sz
    obtain⟨v0,vs1,e,h0,hv1⟩:=hu.cons_inv
    have hv1':=hv1.nil_inv
    subst hv1'
    simp only[aJ,List.map_cons,List.map_nil,List.cons.injEq,and_true] at e
    rw[<-e] at h0
    exact fin rfl (Ei (P:=P) hT h hM h0)
   ·exact rs (gT hT hM a.eval _ hu) (.inr rfl) h
  ·exact rs (gT hT hM a.eval _ hu) (jv _ tt _ _ _) h
 |makeMap t r=>
  simp only at h
  split at h
  ·exact fin rfl (Eg (t:=t) h hM)
  ·exact rs (gT hT hM a.eval _ hu) (jv _ tt _ _ _) h
 |lookup t x y ok=>
  simp only at h
  split at h
  ·exact fin rfl (AW (P:=P) (vm:=a.eval x) (vk:=a.eval y) hT h hM hu)
  ·exact rs (gT hT hM a.eval _ hu) (jv _ tt _ _ _) h
 |mapUpdate t x y z=>
  simp only at h
  split at h
  ·obtain⟨M',S',ρ',w',hr,hK,h1,h2,h3,h5⟩:=Eh (P:=P) (vm:=a.eval x) (vk:=a.eval y) (vx:=a.eval z) hT h hM hu
   unfold Oper.wp
   have he:(execOp a.eval ⟨dst, .mapUpdate t x y z,ty,ps,af,gd⟩).run P w= .ok .skip w':=by
    simp only[execOp,Sem.run_bind,hr,Result.andThen_ok,Sem.run_pure]
   rw[he]
   refine⟨_,M',S',ρ',⟨_,hK,rfl⟩,h1,h2,h3,(hF.mono h1 h2).put _ ?_,h5⟩
   exact RV.tup_mk (bj.nil _ _)
  ·exact rs (gT hT hM a.eval _ hu) (jv _ tt _ _ _) h
 |makeSlice t x y=>
  cases draw with
  |none=>exact fin rfl (GK hT (vl:=a.eval x) (vc:=a.eval y) h hM hu fun h=>uf hT (vl:=a.eval x) (vc:=a.eval y) h hM hu)
  |some r=>exact fin rfl (uf hT (vl:=a.eval x) (vc:=a.eval y) h hM hu)
 |buildSlice t len parts=>
  have hz:((parts.toList.map (·.1)).zip ((parts.toList.map (·.2)).map a.eval)).toArray=parts.map fun(i,x)=>(i,a.eval x):=by
   apply Array.ext'
   simp only[List.toList_toArray,Array.toList_map,List.map_map]
   rw[List.zip_map']
   rfl
  refine fin rfl ?_
  cases draw with
  |none=>
   have:=Ej (P:=P) (S:=S) (F:=F) (ρ:=ρ) (w:=w) (vs:=(parts.toList.map (fun p:Nat×Operand=>p.2)).map a.eval) hT h hM hu (by simp)
    (fun hA=>m8 (P:=P) (S:=S) (F:=F) (ρ:=ρ) (w:=w) (vs:=(parts.toList.map (fun p:Nat×Operand=>p.2)).map a.eval) hT (rk hA) hM hu (by simp))
   rw[hz] at this
   exact this
  |some r=>
   have:=m8 (P:=P) (S:=S) (F:=F) (ρ:=ρ) (w:=w) (vs:=(parts.toList.map (fun p:Nat×Operand=>p.2)).map a.eval) hT (rk h) hM hu (by simp)
   rw[hz] at this
   obtain⟨v,u,M',S',ρ',w',hr,hK,h1,h2,h3,h4,h5⟩:=this
   have hK':nZ u M' K:=hK
   rcases hK'.out with hK|hK
   ·exact⟨v,u,M',S',ρ',w',hr,hK,h1,h2,h3,h4,h5⟩
   ·obtain⟨us',M2,S2,hK2,hle2,hv2,hM2,_⟩:=gj [u] [v] S' M' _ hK (bj.cons h4 (bj.nil _ _)) h3
    cases us' with
    |nil=>exact hK2.elim
    |cons x r=>
     cases r with
     |cons _ _=>exact hK2.elim
     |nil=>
      obtain⟨y,ys,e,hy,_⟩:=hv2.cons_inv
      injection e with e1 _
      subst e1
      exact⟨v,x,M2,S2,ρ',w',hr,hK2,ai.le_trans h1 hle2,h2,hM2,hy,h5⟩
 |call c=>
  obtain⟨callee,args,tys⟩:=c
  cases callee with
  |value f=>
   have hcall:∀(g:FuncId) (caps:Array Value),a.eval f= .func (.func g) #[] caps->nY P g->(execOp a.eval ⟨dst, .call ⟨.value f,args,tys⟩,ty,ps,af,gd⟩).run P w= .ok (.enter g (args.map a.eval++caps)) w:=by
    intro g caps hf ⟨fn,h1,h2,h3⟩
    simp only[execOp,resolve,hf,Deferred.ofValue,Sem.run_bind,Sem.run_pure,Result.andThen_ok,invoke,Array.empty_append,callFunc,run_program,h1,h2,h3,Bool.false_eq_true,if_false]
   simp only[aJ,List.map_cons] at hu
   cases us with
   |nil=>simp[bj] at hu
   |cons u0 us=>
    obtain⟨v0,vs,e,hv0,hvs⟩:=hu.cons_inv
    injection e with e1 e2
    subst e1;subst e2
    simp only at h
    split at h
    ·rename_i g caps args' e
     injection e with e1 e2
     subst e1;subst e2
     obtain⟨cv,hf,hcv⟩:=hv0.fn_inv
     have harr:(args.map a.eval++cv)=((args.toList.map a.eval)++cv.toList).toArray:=by apply Array.ext';simp
     split at h
     ·rw[mh] at h
      have hpl:nY P g:=by rw[cr] at h;exact h.1
      unfold Oper.wp
      rw[hcall g cv hf hpl]
      simp only[Oper.upon]
      rw[cr] at h
      rw[harr]
      refine(h.2 S F ρ _ w hM (hvs.append hcv)).mono ?_
      rintro e w' ⟨v,u,M',S',ρ',rfl,hK,h1,h2,h3,h4,h5⟩
      exact⟨_,M',S',ρ',⟨u,hK,rfl⟩,h1,h2,h3,(hF.mono h1 h2).put _ h4,h5⟩
     ·rename_i r
      rw[mh] at h
      have hS:ak P g (us++caps) M K:=by
       cases ho:fx r with
       |true=>
        rw[xQ ho] at h
        exact h
       |false=>
        cases hr:bZ r with
        |true=>
         rw[iy hr] at h
         exact h.spec
        |false=>
         rw[iz hr ho,dW] at h
         obtain⟨R,n,hspec,hp,_,hk⟩:=h
         exact ak.of_pure (M:=M) (K:=K) (n:=n) hspec hp hk
      have hpl:nY P g:=by rw[cr] at hS;exact hS.1
      unfold Oper.wp
      rw[hcall g cv hf hpl]
      simp only[Oper.upon]
      rw[cr] at hS
      rw[harr]
      refine(hS.2 S F ρ _ w hM (hvs.append hcv)).mono ?_
      rintro e w' ⟨v,u,M',S',ρ',rfl,hK,h1,h2,h3,h4,h5⟩
      exact⟨_,M',S',ρ',⟨u,hK,rfl⟩,h1,h2,h3,(hF.mono h1 h2).put _ h4,h5⟩
    ·exact h.elim
  |invoke r m=>exact rs (gT hT hM a.eval _ hu) (jv draw tt _ _ _) h
  |builtin b=>
   cases b with
   |append=>
    have:cp P S F ρ w (Builtin.append_ tys.toList.toArray ty ((aJ (.call ⟨.builtin .append,args,tys⟩)).map a.eval).toArray) K:=by
     cases draw with
     |none=>exact Ek (P:=P) hT h hM hu fun hA=>ui (P:=P) (S:=S) (F:=F) (ρ:=ρ) (w:=w) (ty:=ty) hT (xS hA) hM hu
     |some r=>exact ui (P:=P) (S:=S) (F:=F) (ρ:=ρ) (w:=w) (ty:=ty) hT (xS h) hM hu
    refine fin (m:=Builtin.append_ tys.toList.toArray ty ((aJ (.call ⟨.builtin .append,args,tys⟩)).map a.eval).toArray) ?_ this
    simp only[execOp,resolve,aJ,Array.toArray_toList]
    have e:(args.toList.map a.eval).toArray=args.map a.eval:=by apply Array.ext';simp
    rw[e]
    rfl
   |copy=>
    cases draw with
    |some r=>exact rs (gT hT hM a.eval _ hu) (jv _ tt _ _ _) h
    |none=>
     have:=AP (P:=P) (S:=S) (F:=F) (ρ:=ρ) (w:=w) (ty:=ty) hT h hM hu
     refine fin (m:=Builtin.copy_ tys.toList.toArray ty ((aJ (.call ⟨.builtin .copy,args,tys⟩)).map a.eval).toArray) ?_ this
     simp only[execOp,resolve,aJ,Array.toArray_toList]
     have e:(args.toList.map a.eval).toArray=args.map a.eval:=by apply Array.ext';simp
     rw[e]
     rfl
   |_=>exact rs (gT hT hM a.eval _ hu) (jv draw tt _ _ _) h
 |_=>exact rs (gT hT hM a.eval _ hu) (jv draw tt _ _ _) h
def lw:List Oper->Nat->Option Tmp
 |[],_=>none
 |o::_,0=>o.dst
 |_::l,n+1=>lw l n
theorem uv:∀(l:List Oper) (n:Nat),lw l n=(l[n]?).bind (·.dst)
 |[],_=>by simp[lw]
 |_::_,0=>by simp[lw]
 |_::l,n+1=>by rw[lw,uv l n];simp
def FY (b want:Bool) (kt kf:Prop):Prop:=
 match b,want with
 |true,true=>kt
 |false,false=>kt
 |true,false=>kf
 |false,true=>kf
def jw (all:List Oper) (fr:List AV) (g:Option (Nat×Bool)) (kt kf:Prop):Prop:=
 match g with
 |none=>kt
 |some (j,want)=>match lw all j with
  |none=>False
  |some d=>sC fr d fun u=>match u with
   | .bool b=>FY b want kt kf
   | .tup _=>kf
   |_=>False
def bN (P:Program) (tt:TT) (draw:Option aM) (all:List Oper) (o:Oper) (fr:List AV) (M:aj) (K:List AV->aj->Prop):Prop:=
 jw all fr o.guard (wv fr (aJ o.op) fun us=>bc P tt draw o us M fun u M'=>lh fr o.dst u fun fr'=>K fr' M') (lh fr o.dst (.tup []) fun fr'=>K fr' M)
theorem ze {all:List Oper} {a:Act} {fr:List AV} {o:Oper} {kt kf:Prop} (h:jw all fr o.guard kt kf) (hF:eZ S ρ a fr):
  if Region.wanted o (yielded all.toArray a.tmps) then kt else kf:=by
 unfold jw at h
 unfold Region.wanted
 cases hg:o.guard with
 |none=>rw[hg] at h;simpa using h
 |some p=>
  obtain⟨j,want⟩:=p
  rw[hg] at h
  simp only at h
  simp only[uv] at h
  split at h
  ·exact h.elim
  ·rename_i d hd
   rw[kU] at h
   have hy:yielded all.toArray a.tmps j=match a.tmps[d]? with|some (.bool b)=>some b|_=>none:=by
    unfold yielded
    have:(all.toArray[j]?).bind (·.dst)=some d:=by simpa using hd
    rw[this]
    rfl
   have hr:∀u,fr.getD d .top=u->u≠ .top->∃v,a.tmps[d]? =some v/\RV S ρ v u:=by
    intro u hu hne
    by_cases hl:d<fr.length
    ·have hg:fr[d]? =some u:=by rw[<-hu];simp[List.getD,hl]
     obtain⟨v,hv,hr⟩:=hF.1.2 d u hg
     exact⟨v,by simpa using hv,hr⟩
    ·exact absurd (by rw[<-hu];simp[List.getD,hl]) hne
   split at h
   ·rename_i b hb
    obtain⟨v,hv,hvr⟩:=hr _ hb (by simp)
    rw[hv,hvr.bool_inv] at hy
    simp only at hy
    simp only[hy]
    cases b<;>cases want<;>simpa[FY] using h
   ·rename_i cs hb
    obtain⟨v,hv,hvr⟩:=hr _ hb (by simp)
    obtain⟨vs,rfl,_⟩:=hvr.tup_inv
    rw[hv] at hy
    simp only at hy
    simp only[hy]
    simpa using h
   ·exact h.elim
theorem mi (hT:bh P tt=true) {draw:Option aM} {all:List Oper} {o:Oper} {a:Act} {K:List AV->aj->Prop} {Q:Exit->Act->World->Prop} {fr:List AV} (h:bN P tt draw all o fr M K) (hM:aF S F ρ M w) (hF:eZ S ρ a fr):
  if Region.wanted o (yielded all.toArray a.tmps) then o.wp P a w (cR S F ρ w K) Q else cR S F ρ w K (a.put o.dst undef) w:=by
 have:=ze h hF
 split
 ·rename_i hw
  rw[if_pos hw,eU] at this
  refine Oper.wp_mono (fun a' w' h'=>?_) (El (Q:=Q) hT this hM hF (hF.evals _))
  exact h'.mono fun fr' M' ⟨u,hk,e⟩=>by rw[eT] at hk;rw[e];exact hk
 ·rename_i hw
  rw[if_neg hw,eT] at this
  exact⟨_,M,S,ρ,this,ai.le_refl _,aD.le_refl _,hM,hF.put _ (RV.tup_mk (bj.nil _ _)),du.refl _⟩
def dv (P:Program) (tt:TT) (draw:Option aM) (all:List Oper):List Oper->List AV->aj->(List AV->aj->Prop)->Prop
 |[],fr,M,K=>K fr M
 |o::r,fr,M,K=>bN P tt draw all o fr M fun fr' M'=>dv P tt draw all r fr' M' K
theorem xT (hT:bh P tt=true) {all:List Oper} {K:List AV->aj->Prop} {Q:Exit->Act->World->Prop}:∀(l:List Oper) (S:ai) (ρ:aD) (w:World) (a:Act) (fr:List AV) (M:aj),dv P tt none all l fr M K->aF S F ρ M w->eZ S ρ a fr->
  (∀a' w',cR S F ρ w K a' w'->Q .normal a' w')->wpList P all.toArray Q l a w
 |[],S,ρ,w,a,fr,M,h,hM,hF,hQ=>hQ _ _ ⟨fr,M,S,ρ,h,ai.le_refl _,aD.le_refl _,hM,hF,du.refl _⟩
 |o::r,S,ρ,w,a,fr,M,h,hM,hF,hQ=>by
  have hs:=mi (Q:=Q) hT h hM hF
  unfold wpList
  have next:∀a' w',cR S F ρ w (fun fr' M'=>dv P tt none all r fr' M' K) a' w'->wpList P all.toArray Q r a' w':=by
   rintro a' w' ⟨fr',M',S',ρ',hk,h1,h2,h3,h4,h5⟩
   exact xT hT r S' ρ' w' a' fr' M' hk h3 h4 fun a'' w'' h'=>hQ _ _ (h'.trans h1 h2 h5)
  split
  ·rename_i hw
   rw[if_pos hw] at hs
   exact .inl (Oper.wp_mono next hs)
  ·rename_i hw
   rw[if_neg hw] at hs
   exact next _ _ hs
end
end Go.Proofs.YtnjggjhkfncnlaaGreatDoor
namespace Go.Proofs.YtnjggjhkfncnlaaGreatDoor
def bg {X:Type 1} (T:(X->Prop)->Prop):Prop:=∃p:X->Prop,∀K,T K↔∃x,p x/\K x
theorem bg.false {X:Type 1}:bg (fun _:X->Prop=>False):=⟨fun _=>False,fun K=>by simp⟩
theorem bg.one {X:Type 1} (x:X):bg (fun K:X->Prop=>K x):=⟨fun y=>y=x,fun K=>by simp⟩
theorem bg.need {X:Type 1} (c:Prop) {T:(X->Prop)->Prop} (h:bg T):bg (fun K=>gU c (T K)):=by
 obtain⟨p,hp⟩:=h
 refine⟨fun x=>c/\p x,fun K=>?_⟩
 simp only[bC]
 show c/\T K↔_
 rw[hp]
 exact⟨fun⟨hc,x,h1,h2⟩=>⟨x,⟨hc,h1⟩,h2⟩,fun⟨x,⟨hc,h1⟩,h2⟩=>⟨hc,x,h1,h2⟩⟩
theorem bg.bind {X Y:Type 1} {T:(Y->Prop)->Prop} {U:Y->(X->Prop)->Prop} (h:bg T) (hU:∀y,bg (U y)):bg (fun K=>T fun y=>U y K):=by
 obtain⟨p,hp⟩:=h
 refine⟨fun x=>∃y,p y/\Classical.choose (hU y) x,fun K=>?_⟩
 show T (fun y=>U y K)↔_
 refine(hp _).trans ?_
 constructor
 ·rintro⟨y,hy,hK⟩
  obtain⟨x,h1,h2⟩:=(Classical.choose_spec (hU y) K).1 hK
  exact⟨x,⟨y,hy,h1⟩,h2⟩
 ·rintro⟨x,⟨y,hy,h1⟩,h2⟩
  exact⟨y,hy,(Classical.choose_spec (hU y) K).2 ⟨x,h1,h2⟩⟩
theorem bg.congr {X:Type 1} {T T':(X->Prop)->Prop} (h:bg T) (e:∀K,T' K↔T K):bg T':=by
 obtain⟨p,hp⟩:=h
 exact⟨p,fun K=>(e K).trans (hp K)⟩
theorem bg.ex {X:Type 1} {I:Sort _} {T:I->(X->Prop)->Prop} (h:∀i,bg (T i)):bg (fun K=>∃i,T i K):=by
 refine⟨fun x=>∃i,Classical.choose (h i) x,fun K=>?_⟩
 constructor
 ·rintro⟨i,hK⟩
  obtain⟨x,h1,h2⟩:=(Classical.choose_spec (h i) K).1 hK
  exact⟨x,⟨i,h1⟩,h2⟩
 ·rintro⟨x,⟨i,h1⟩,h2⟩
  exact⟨i,(Classical.choose_spec (h i) K).2 ⟨x,h1,h2⟩⟩
theorem bg.and {X:Type 1} (c:Prop) {T:(X->Prop)->Prop} (h:bg T):bg (fun K=>c/\T K):=by
 obtain⟨p,hp⟩:=h
 refine⟨fun x=>c/\p x,fun K=>?_⟩
 show c/\T K↔_
 rw[hp]
 exact⟨fun⟨hc,x,h1,h2⟩=>⟨x,⟨hc,h1⟩,h2⟩,fun⟨x,⟨hc,h1⟩,h2⟩=>⟨hc,x,h1,h2⟩⟩
theorem bg.or {X:Type 1} {T U:(X->Prop)->Prop} (h:bg T) (h':bg U):bg (fun K=>T K\/U K):=by
 obtain⟨p,hp⟩:=h
 obtain⟨q,hq⟩:=h'
 refine⟨fun x=>p x\/q x,fun K=>?_⟩
 show T K\/U K↔_
 rw[hp,hq]
 constructor
 ·rintro(⟨x,a,b⟩|⟨x,a,b⟩)
  ·exact⟨x, .inl a,b⟩
  ·exact⟨x, .inr a,b⟩
 ·rintro⟨x,a|a,b⟩
  ·exact .inl ⟨x,a,b⟩
  ·exact .inr ⟨x,a,b⟩
theorem mj:∀(us:List AV) (M:aj),bg (fun K:List AV×aj->Prop=>dA us M fun a b=>K (a,b))
 |[],M=>bg.one ([],M)
 |u::us,M=>by
  have key:∀(x:AV) (M':aj),bg (fun K:List AV×aj->Prop=>dA us M' fun us' M''=>K (x::us',M'')):=fun x M'=>
   (bg.bind (mj us M') (fun y:List AV×aj=>bg.one (x::y.1,y.2))).congr fun K=>Iff.rfl
  simp only[dA]
  split
  ·rename_i ℓ n sz
   split
   ·exact key _ _
   ·exact key _ _
   ·exact bg.false
  ·exact key _ _
theorem ph:∀(css:List (List AV)) (M:aj),bg (fun K:List (List AV)×aj->Prop=>iO css M fun a b=>K (a,b))
 |[],M=>bg.one ([],M)
 |cs::r,M=>by
  simp only[iO]
  refine(bg.bind (mj cs M) (U:=fun y K=>iO r y.2 fun r' M''=>K (y.1::r',M'')) (fun y=>?_)).congr fun K=>Iff.rfl
  exact(bg.bind (ph r y.2) (fun z:List (List AV)×aj=>bg.one (y.1::z.1,z.2))).congr fun K=>Iff.rfl
theorem nf (tt:TT) (t:TypeId) (us:List AV) (M:aj):bg (fun K:aj->Prop=>eo tt t us M K):=by
 unfold eo
 split
 ·split
  ·split
   ·split
    ·split
     ·split
      ·simp only[di];exact bg.one _
      ·exact bg.false
     ·exact bg.false
    ·rename_i ℓ j o
     refine(bg.bind (mj _ M) (U:=fun y (K:aj->Prop)=>match y.2 ℓ with
      |some (.row rt d enc l)=>match cd y.1,Nat.ble (o+y.1.length) (enc (l.getD j d)).length with
       |true,true=>ow enc (l.getD j d) o y.1 fun a'=>K (y.2.set ℓ (.row rt d enc (l.set j a')))
       |_,_=>False
      |_=>False) (fun y=>?_)).congr fun K=>Iff.rfl
     split
     ·split
      ·simp only[fk]
       exact bg.ex fun a'=>bg.and _ (bg.one _)
      ·exact bg.false
     ·exact bg.false
    ·exact bg.false
   ·exact bg.false
  ·exact bg.false
 ·exact bg.false
theorem zf (tt:TT) (t:TypeId) (dst:Option Tmp) (M:aj):bg (fun K:AV×aj->Prop=>iM tt t dst M fun a b=>K (a,b)):=by
 unfold iM
 split
 ·split
  ·simp only[di];exact bg.one (_,_)
  ·exact bg.false
 ·exact bg.false
theorem Em (t:TypeId) (us:List AV) (dst:Option Tmp) (M:aj):bg (fun K:AV×aj->Prop=>AD t us dst M fun a b=>K (a,b)):=by
 unfold AD
 split
 ·split
  ·exact(bg.or (bg.and _ (bg.one (_,_))) (bg.one (_,_))).congr fun K=>⟨fun h=>h.out,fun h=>⟨h⟩⟩
  ·exact bg.false
 ·exact bg.false
theorem A8 (tt:TT) (t:TypeId) (us:List AV) (dst:Option Tmp) (M:aj):bg (fun K:AV×aj->Prop=>lp tt t us dst M fun a b=>K (a,b)):=by
 unfold lp
 split
 ·split
  ·split
   ·simp only[jp]
    exact bg.and _ (bg.ex fun α=>bg.ex fun d=>bg.ex fun enc=>bg.ex fun z=>bg.and _ (bg.one (_,_)))
   ·exact bg.false
  ·exact bg.false
 ·exact bg.false
theorem zg (tt:TT) (t:TypeId) (len:Nat) (is:List Nat) (us:List AV) (dst:Option Tmp) (M:aj):bg (fun K:AV×aj->Prop=>ep tt t len is us dst M fun a b=>K (a,b)):=by
 unfold ep
 split
 ·rename_i d _ _ e _ _
  split
  ·rename_i i _
   split
   ·refine(bg.bind (ph _ M) (U:=fun y (K:AV×aj->Prop)=>match y.2 d with
      |none=>match i4 y.1 with
       |true=>match l8 y.1 with
        |some ns=>K (.row d len i.size,y.2.set d (.row e (0:Int) an ns))
        |none=>AE y.1 fun _ dd enc l=>K (.row d len i.size,y.2.set d (.row e dd enc l))
       |false=>False
      |some _=>False) (fun y=>?_)).congr fun K=>Iff.rfl
    split
    ·split
     ·split
      ·exact bg.one (_,_)
      ·simp only[gW]
       exact bg.ex fun α=>bg.ex fun d=>bg.ex fun enc=>bg.ex fun z=>bg.and _ (bg.one (_,_))
     ·exact bg.false
    ·exact bg.false
   ·exact bg.false
  ·exact bg.false
 ·exact bg.false
theorem En (tt:TT) (d:Nat) (e:TypeId) (i:TI) (s x:AV) (M:aj) (β:Type) (dd':β) (enc':β->List AV) (l':List β):bg (fun K:AV×aj->Prop=>match Nat.beq (enc' (l'.getD 0 dd')).length i.size with
  |true=>match s with
   | .nilsl=>gU (l'.length*i.bytes<=140737488355328) (K (.row d l'.length i.size,M.set d (.row e dd' enc' l')))
   | .slc dd enc l=>match Nat.beq (enc (l.getD 0 dd)).length i.size with
    |true=>gU (0<l'.length) (wk enc l enc' l' i.bytes fun l''=>K (.row d (l.length+l'.length) i.size,M.set d (.row e dd enc (l++l''))))
    |false=>False
   | .row ℓ n sz=>match M ℓ,Nat.beq sz i.size with
    |some (.row e' dd enc l),true=>match Nat.beq e' e,(match x with| .row ℓ' _ _=>!(Nat.beq ℓ ℓ')|_=>true) with
     |true,true=>wk enc l enc' l' i.bytes fun l''=>K (.row d (n+l'.length) i.size,(M.set ℓ .dead).set d (.row e dd enc (l++l'')))
     |_,_=>False
    |_,_=>False
   |_=>False
  |false=>False):=by
 split
 ·split
  ·exact bg.need _ (bg.one (_,_))
  ·split
   ·simp only[i5]
    exact bg.need _ (bg.and _ (bg.ex fun l''=>bg.and _ (bg.one (_,_))))
   ·exact bg.false
  ·split
   ·split
    ·simp only[i5]
     exact bg.and _ (bg.ex fun l''=>bg.and _ (bg.one (_,_)))
    ·exact bg.false
   ·exact bg.false
  ·exact bg.false
 ·exact bg.false
theorem Eo (x:AV) (M:aj) {X:Type 1} {U:(α:Type)->α->(α->List AV)->List α->(X->Prop)->Prop} (h:∀α d enc l,bg (U α d enc l)):bg (fun K:X->Prop=>so x M fun α d enc l=>U α d enc l K):=by
 unfold so
 split
 ·exact h _ _ _ _
 ·split
  ·exact h _ _ _ _
  ·exact h _ _ _ _
  ·exact bg.false
 ·exact h _ _ _ _
 ·exact bg.false
theorem wy (tt:TT) (ts:List TypeId) (us:List AV) (dst:Option Tmp) (M:aj):bg (fun K:AV×aj->Prop=>fu tt ts us dst M fun a b=>K (a,b)):=by
 unfold fu
 split
 ·split
  ·split
   ·split
    ·exact bg.false
    ·exact Eo _ M fun α d enc l=>En tt _ _ _ _ _ M α d enc l
   ·exact bg.false
  ·exact bg.false
 ·exact bg.false
theorem uw (tt:TT) (ts:List TypeId) (us:List AV) (dst:Option Tmp) (M:aj):bg (fun K:AV×aj->Prop=>ke tt ts us dst M fun a b=>K (a,b)):=by
 unfold ke
 split
 ·split
  ·split
   ·split
    ·simp only[jp]
     exact bg.and _ (bg.ex fun α=>bg.ex fun d=>bg.ex fun enc=>bg.ex fun z=>bg.and _ (bg.one (_,_)))
    ·exact bg.false
   ·exact bg.false
  ·exact bg.false
 ·exact bg.false
theorem pi (tt:TT) (ts:List TypeId) (us:List AV) (dst:Option Tmp) (M:aj):bg (fun K:AV×aj->Prop=>jR tt ts us dst M fun a b=>K (a,b)):=by
 unfold jR
 split
 ·exact uw tt ts _ dst M
 ·exact wy tt ts us dst M
theorem zh (tt:TT) (t:TypeId) (us:List AV) (dst:Option Tmp) (M:aj):bg (fun K:AV×aj->Prop=>o7 tt t us dst M fun a b=>K (a,b)):=by
 unfold o7
 split
 ·split
  ·exact bg.one (_,_)
  ·exact bg.false
 ·exact bg.false
theorem A9 (str:Bool) (us:List AV) (M:aj):bg (fun K:AV×aj->Prop=>ue str us M fun a b=>K (a,b)):=by
 unfold ue
 split
 ·split
  ·rename_i s pos _
   simp only[q']
   by_cases h:pos<s.size
   ·exact(bg.one (_,_)).congr fun K=>⟨fun hh=>hh.1 h,fun hh=>⟨fun _=>hh,fun hn=>absurd h hn⟩⟩
   ·exact(bg.one (_,_)).congr fun K=>⟨fun hh=>hh.2 h,fun hh=>⟨fun hp=>absurd hp h,fun _=>hh⟩⟩
  ·exact bg.false
 ·exact bg.false
def dg:Op->Nat
 | .load _ _=>1
 | .store _ _ _| .alloc _| .box _ _| .makeSlice _ _ _| .buildSlice _ _ _| .range _ _| .next _ _=>3
 | .call c=>match c.callee with
  | .value _=>2
  | .builtin .append=>3
  |_=>0
 |_=>0
variable {P:Program} {tt:TT}
theorem ng {o:Oper} (h:dg o.op=0\/dg o.op=1) (r:aM) (us:List AV) (M:aj) (K:AV->aj->Prop):bc P tt (some r) o us M K=fQ (kV (some r) tt o.op us M) fun u=>K u M:=by
 unfold bc
 cases ho:o.op with
 |store _ _ _=>rw[ho] at h;simp[dg] at h
 |alloc _=>rw[ho] at h;simp[dg] at h
 |box _ _=>rw[ho] at h;simp[dg] at h
 |range _ _=>rw[ho] at h;simp[dg] at h
 |next _ _=>rw[ho] at h;simp[dg] at h
 |makeSlice _ _ _=>rw[ho] at h;simp[dg] at h
 |buildSlice _ _ _=>rw[ho] at h;simp[dg] at h
 |call c=>
  obtain⟨callee,args,tys⟩:=c
  cases callee with
  |value f=>rw[ho] at h;simp[dg] at h
  |invoke _ _=>rfl
  |builtin b=>cases b<;>first|rfl|(rw[ho] at h;simp[dg] at h)
 |_=>rfl
theorem A' {op:Op} (h:dg op=0) (us:List AV) (M M':aj):q6 tt op us M=q6 tt op us M':=by
 cases op<;>first|rfl|simp[dg] at h
def gJ (r:aM) (op:Op):Nat:=
 match r,op with
 | .pers, .load _ _=>0
 | .fresh, .load _ _=>0
 | .boxes as, .load _ x=>match gF as x with
  |none=>0
  |some _=>1
 |_,op=>dg op
theorem xU (r:aM) {op:Op} (h:gJ r op=0) (us:List AV) (M M':aj):kV (some r) tt op us M=kV (some r) tt op us M':=by
 cases r with
 |any=>exact A' h us M M'
 |flat=>exact A' h us M M'
 |own=>exact A' h us M M'
 |boxes as=>
  unfold kV
  cases op with
  |load t x=>
   simp only[gJ] at h⊢
   cases hs:gF as x with
   |some l=>rw[hs] at h;cases h
   |none=>rfl
  |_=>rfl
 |fresh=>
  unfold kV
  cases op<;>rfl
 |rows=>
  unfold kV
  cases op<;>first|rfl|simp[gJ,dg] at h
 |pers=>
  unfold kV
  cases op<;>rfl
theorem iQ {r:aM} {op:Op} (h:gJ r op=0):dg op=0\/dg op=1:=by
 cases r<;>cases op<;>first|exact .inl h|exact .inr rfl
theorem gw {r:aM} {op:Op} {n:Nat} (h:gJ r op=n+1):dg op=n+1:=by
 cases r with
 |boxes as=>
  cases op with
  |load t x=>
   simp only[gJ] at h
   split at h
   ·cases h
   ·exact h
  |_=>exact h
 |_=>cases op<;>first|exact h|(simp[gJ] at h)
theorem wz (draw:Option aM) (tt:TT) (t:TypeId) (p:Operand) (us:List AV) (M:aj):bg (fun K:aj->Prop=>dB draw tt t p us M K):=by
 unfold dB
 split
 ·split
  ·split
   ·split
    ·exact nf tt t _ M
    ·exact bg.false
   ·exact bg.false
  ·exact bg.false
 ·split
  ·split
   ·exact nf tt t _ M
   ·exact bg.false
  ·exact bg.false
 ·exact nf tt t us M
theorem sG {o:Oper} (h:dg o.op=3) (r:aM) (us:List AV) (M:aj):bg (fun K:AV×aj->Prop=>bc P tt (some r) o us M fun a b=>K (a,b)):=by
 unfold bc
 cases ho:o.op with
 |store t p _=>exact(bg.bind (wz (some r) tt t p us M) (fun m=>bg.one (.tup [],m))).congr fun K=>Iff.rfl
 |alloc t=>exact zf tt t o.dst M
 |range t _=>exact zh tt t us o.dst M
 |next _ str=>exact A9 str us M
 |box t _=>exact Em t us o.dst M
 |makeSlice t _ _=>exact A8 tt t us o.dst M
 |buildSlice t len ps=>
  have leak:∀r:aM,bg (fun K:AV×aj->Prop=>ep tt t len (ps.toList.map (·.1)) us o.dst M (rj (some r) fun a b=>K (a,b))):=by
   intro r
   refine(bg.bind (zg tt t len _ us o.dst M) (U:=fun z K=>nZ z.1 z.2 fun a b=>K (a,b)) (fun z=>?_)).congr fun K=>Iff.rfl
   simp only[zc]
   refine bg.or (bg.one (z.1,z.2)) ?_
   refine(bg.bind (mj [z.1] z.2) (U:=fun y K=>match y.1 with|[x]=>K (x,y.2)|_=>False) (fun y=>?_)).congr fun K=>Iff.rfl
   split
   ·exact bg.one (_,_)
   ·exact bg.false
  unfold ne
  simp only
  split
  ·split
   ·exact leak r
   ·exact bg.false
  ·exact leak r
 |call c=>
  obtain⟨callee,args,tys⟩:=c
  cases callee with
  |value f=>rw[ho] at h;simp[dg] at h
  |invoke _ _=>rw[ho] at h;simp[dg] at h
  |builtin b=>
   have app:bg (fun K:AV×aj->Prop=>wx (some r) tt args.toList tys.toList us o.dst M fun a b=>K (a,b)):=by
    unfold wx
    split
    ·split
     ·split
      ·exact pi tt _ _ o.dst M
      ·exact bg.false
     ·exact pi tt _ us o.dst M
    ·exact pi tt _ us o.dst M
   cases b<;>first|exact app|(rw[ho] at h;simp[dg] at h)
 |_=>rw[ho] at h;simp[dg] at h
end Go.Proofs.YtnjggjhkfncnlaaGreatDoor
namespace Go.Proofs.YtnjggjhkfncnlaaGreatDoor
def gv (all:List Oper) (fr:List AV):Option (Nat×Bool)->Option Bool
 |none=>some true
 |some (j,want)=>match lw all j with
  |none=>none
  |some d=>match fr.getD d .top with
   | .bool b=>some (b==want)
   | .tup _=>some false
   |_=>none
def ko:List Operand->List Nat
 |[]=>[]
 | .tmp t::r=>t::ko r
 |_::r=>ko r
def jx (all:List Oper) (o:Oper):List Nat:=
 ko (aJ o.op)++(match o.guard with|some (j,_)=>(lw all j).toList|none=>[])
def wA (all:List Oper) (x y:Oper):Bool:=
 (match x.dst with|some d=>!(jx all y).contains d&&!(decide (y.dst=some d))|none=>true)&&(match y.dst with|some d=>!(jx all x).contains d|none=>true)
def iA:Op->Bool
 | .store _ _ _=>true
 |_=>false
def pj:aM->Bool
 | .rows=>true
 |_=>false
def xV:Op->Bool
 | .alloc _=>true
 |_=>false
def Ep (tt:TT) (r:aM):Op->Bool
 | .alloc _=>true
 | .makeSlice _ _ _=>true
 | .buildSlice t _ _=>match ww r with|true=>true|false=>sF tt t
 | .call c=>match c.callee with
  | .builtin .append=>bZ r&&uu c.args.toList
  |_=>false
 |_=>false
def lH (tt:TT) (r:aM) (x y:Op):Bool:=Ep tt r y&&(match gJ r x with
 |0=>true
 |1=>true
 |2=>bZ r||xV y
 |_=>Ep tt r x)
def Ba (r:aM) (op:Op):Option Nat:=
 match r with
 | .boxes as=>match op with
  | .load _ x=>gF as x
  | .store _ x _=>gF as x
  |_=>none
 |_=>none
def zi (r:aM) (x y:Op):Bool:=
 match Ba r x,Ba r y with
 |some a,some b=>!(Nat.beq a b)
 |_,_=>false
def ox (op:Op):Bool:=Nat.beq (dg op) 2
def n5 (tt:TT) (r:aM) (all:List Oper) (x y:Oper):Bool:=
 wA all x y&&!(fx r&&(ox x.op||ox y.op))&&(lH tt r x.op y.op||(match gJ r x.op,gJ r y.op with
  |0,_=>true
  |_,0=>true
  |1,1=>true
  |1,2=>true
  |2,1=>true
  |_,_=>false)||(pj r&&(decide (dg x.op=1)&&iA y.op||iA x.op&&decide (dg y.op=1)))||zi r x.op y.op)
section
variable {P:Program} {tt:TT} {all:List Oper} {r:aM}
theorem bu (draw:Option aM) (o:Oper) (fr:List AV) (M:aj) (K:List AV->aj->Prop):bN P tt draw all o fr M K↔(match gv all fr o.guard with
  |some true=>bc P tt draw o ((aJ o.op).map (db fr)) M fun u M'=>K (cB fr o.dst u) M'
  |some false=>K (cB fr o.dst (.tup [])) M
  |none=>False):=by
 unfold bN jw gv
 cases o.guard with
 |none=>simp only[eU,eT]
 |some p=>
  obtain⟨j,want⟩:=p
  simp only
  cases lw all j with
  |none=>exact Iff.rfl
  |some d=>
   simp only[kU,eU,eT]
   cases fr.getD d .top with
   |bool b=>cases b<;>cases want<;>exact Iff.rfl
   |_=>exact Iff.rfl
theorem kp {fr:List AV} {d t:Nat} (h:d≠t) (u:AV):(fr.set d u).getD t .top=fr.getD t .top:=by
 simp[List.getD,List.getElem?_set_ne h]
theorem kq {fr:List AV} {d:Nat} (u:AV):∀(xs:List Operand),d∉ko xs->xs.map (db (fr.set d u))=xs.map (db fr)
 |[],_=>rfl
 |x::xs,h=>by
  cases x with
  |tmp t=>
   simp only[ko,List.mem_cons,not_or] at h
   simp only[List.map_cons,kq u xs h.2,db,kp h.1]
  |const v=>simp only[ko] at h;simp only[List.map_cons,kq u xs h];rfl
  |func f=>simp only[ko] at h;simp only[List.map_cons,kq u xs h];rfl
  |global g=>simp only[ko] at h;simp only[List.map_cons,kq u xs h];rfl
theorem i9 {o:Oper} {fr:List AV} {dd:Option Tmp} (h:∀d,dd=some d->d∉jx all o) (u:AV):
  (aJ o.op).map (db (cB fr dd u))=(aJ o.op).map (db fr)/\gv all (cB fr dd u) o.guard=gv all fr o.guard:=by
 cases dd with
 |none=>exact⟨rfl,rfl⟩
 |some d=>
  have hd:=h d rfl
  simp only[jx,List.mem_append,not_or] at hd
  refine⟨kq u _ hd.1,?_⟩
  unfold gv
  cases hg:o.guard with
  |none=>rfl
  |some p=>
   obtain⟨j,want⟩:=p
   rw[hg] at hd
   simp only at hd⊢
   cases hj:lw all j with
   |none=>rfl
   |some d'=>
    rw[hj] at hd
    have:d≠d':=by simpa using hd.2
    simp only[cB,kp this]
theorem zj {fr:List AV} {x y:Option Tmp} (h:∀d,x=some d->y≠some d) (u v:AV):cB (cB fr x u) y v=cB (cB fr y v) x u:=by
 cases x with
 |none=>rfl
 |some d=>
  cases y with
  |none=>rfl
  |some e=>
   have:d≠e:=fun he=>h d rfl (by rw[he])
   simp only[cB]
   rw[List.set_comm u v this]
theorem wB {x y:Oper} (h:wA all x y=true):(∀d,x.dst=some d->d∉jx all y)/\(∀d,x.dst=some d->y.dst≠some d)/\(∀d,y.dst=some d->d∉jx all x):=by
 unfold wA at h
 rw[Bool.and_eq_true] at h
 refine⟨fun d hd=>?_,fun d hd=>?_,fun d hd=>?_⟩
 ·have:=h.1;rw[hd] at this;simp at this;exact this.1
 ·have:=h.1;rw[hd] at this;simp at this;exact this.2
 ·have:=h.2;rw[hd] at this;simpa using this
theorem n6 {o:Oper} {dd:Option Tmp} (h1:∀d,dd=some d->d∉jx all o) (h2:∀d,dd=some d->o.dst≠some d) (draw:Option aM) (fr:List AV) (u:AV) (M:aj) (K:List AV->aj->Prop):
  bN P tt draw all o (cB fr dd u) M K↔bN P tt draw all o fr M fun fr' M'=>K (cB fr' dd u) M':=by
 rw[bu,bu]
 obtain⟨e1,e2⟩:=i9 (fr:=fr) h1 u
 rw[e1,e2]
 have e3:∀v,cB (cB fr dd u) o.dst v=cB (cB fr o.dst v) dd u:=fun v=>zj h2 u v
 simp only[e3]
theorem GL {r:Rs} {x y:AV} (hx:fQ r (fun u=>u=x)) (hy:fQ r (fun u=>u=y)):x=y:=by
 cases r with
 |no=>exact hx.elim
 |val u=>simp only[fQ,bW] at*;rw[<-hx,<-hy]
 |need c u=>simp only[fQ,bW] at*;simp only[bC] at*;rw[<-hx.2,<-hy.2]
 |arith c k n=>simp only[fQ] at*;simp only[dy] at*;rw[<-hx.2,<-hy.2]
 |cmp p i=>simp only[fQ] at*;simp only[gV] at*;rw[<-hx,<-hy]
theorem pk {o:Oper} (h:dg o.op=2) (us:List AV):(∀M K,bc P tt (some r) o us M K=False)\/∃f l,∀M K,bc P tt (some r) o us M K=ut r P f l M K:=by
 unfold bc
 cases ho:o.op with
 |call c=>
  obtain⟨callee,args,tys⟩:=c
  cases callee with
  |value f=>
   simp only
   cases us with
   |nil=>exact .inl fun M K=>rfl
   |cons u us=>
    cases u with
    |fn f caps=>exact .inr ⟨f,us++caps,fun M K=>by simp only[mh]⟩
    |_=>exact .inl fun M K=>rfl
  |invoke _ _=>rw[ho] at h;simp[dg] at h
  |builtin b=>rw[ho] at h;cases b<;>simp[dg] at h
 |_=>rw[ho] at h;simp[dg] at h
theorem kX (op:Op):dg op=0\/dg op=1\/dg op=2\/dg op=3:=by
 cases op<;>first|(left;rfl)|(right;left;rfl)|(right;right;right;rfl)|skip
 rename_i c
 obtain⟨callee,args,tys⟩:=c
 cases callee with
 |value f=>right;right;left;rfl
 |invoke _ _=>left;rfl
 |builtin b=>cases b<;>first|(left;rfl)|(right;right;right;rfl)
theorem pl {t:TypeId} {p:Operand} {us:List AV} {M:aj} {K:aj->Prop} (h:dB (some .rows) tt t p us M K):∃ℓ rt,∃(α:Type) (d:α) (enc:α->List AV) (l l':List α),M ℓ=some (.row rt d enc l)/\K (M.set ℓ (.row rt d enc l'))/\∀K':aj->Prop,K' (M.set ℓ (.row rt d enc l'))->dB (some .rows) tt t p us M K':=by
 have leak:∀(cs:List AV) (M:aj) (K:List AV->aj->Prop),cd cs=true->dA cs M K=K cs M:=by
  intro cs
  induction cs with
  |nil=>intro M K _;rfl
  |cons u us ih=>
   intro M K hp
   simp only[cd] at hp
   split at hp
   ·rename_i hu
    cases u with
    |row a b c=>simp[l6] at hu
    |_=>simp only[dA];rw[ih _ _ hp]
   ·cases hp
 unfold dB at h
 simp only at h
 split at h
 ·rename_i ℓ j o x
  split at h
  ·rename_i cs hcs
   split at h
   ·rename_i hp
    unfold eo at h
    simp only[hcs] at h
    split at h
    ·rename_i cs0 i e ht
     cases e
     split at h
     ·rename_i hsz
      rw[leak cs M _ hp] at h
      split at h
      ·rename_i rt α d enc l hl
       split at h
       ·rename_i hp2 hle
        rw[fk] at h
        obtain⟨a',ha,hK⟩:=h
        refine⟨ℓ,rt,α,d,enc,l,l.set j a',hl,hK,fun K' hK'=>?_⟩
        unfold dB
        simp only[hcs,hp]
        unfold eo
        simp only[hcs,ht,hsz]
        rw[leak cs M _ hp,hl]
        simp only[hp,hle]
        rw[fk]
        exact⟨a',ha,hK'⟩
       ·exact h.elim
      ·exact h.elim
     ·exact h.elim
    ·exact h.elim
   ·exact h.elim
  ·exact h.elim
 ·exact h.elim
theorem xW {t:TypeId} {p:Operand} {us:List AV} {M:aj} {ℓ:Nat} {rt:TypeId} {α:Type} {d:α} {enc:α->List AV} {l l':List α} (hl:M ℓ=some (.row rt d enc l)):
  kV (some .rows) tt (.load t p) us (M.set ℓ (.row rt d enc l'))=kV (some .rows) tt (.load t p) us M:=by
 simp only[kV]
 split
 ·rfl
 ·rename_i x hx
  unfold fp
  split
  ·rfl
  ·rename_i ℓ' o
   by_cases e:ℓ'=ℓ
   ·subst e;rw[aj.set_eq,hl]
   ·rw[aj.set_ne _ _ e]
  ·rename_i ℓ' i o
   exact absurd rfl (hx ℓ' i o)
  ·rfl
 ·rfl
theorem gX {M M1:aj} (he:∀ℓ B,M ℓ=some B->M1 ℓ=some B) {t:TypeId} {x:AV} {k:AV->Prop} (h:fQ (fp tt t M x) k):fp tt t M1 x=fp tt t M x:=by
 unfold fp at h⊢
 cases x with
 |ptr ℓ o=>
  simp only at h⊢
  cases hM:M ℓ with
  |none=>rw[hM] at h;exact h.elim
  |some B=>rw[he ℓ B hM]
 |rel ℓ i o=>
  simp only at h⊢
  cases hM:M ℓ with
  |none=>rw[hM] at h;exact h.elim
  |some B=>rw[he ℓ B hM]
 |_=>rfl
theorem Er {M M1:aj} (he:∀ℓ B,M ℓ=some B->M1 ℓ=some B) {op:Op} {us:List AV} {k:AV->Prop} (h:fQ (kV (some r) tt op us M) k):kV (some r) tt op us M1=kV (some r) tt op us M:=by
 cases r with
 |any=>
  have h:fQ (q6 tt op us M) k:=h
  show q6 tt op us M1=q6 tt op us M
  cases op with
  |load t x=>
   cases us with
   |nil=>rfl
   |cons a l=>
    cases l with
    |nil=>exact gX he h
    |cons _ _=>rfl
  |_=>rfl
 |flat=>
  have h:fQ (q6 tt op us M) k:=h
  show q6 tt op us M1=q6 tt op us M
  cases op with
  |load t x=>
   cases us with
   |nil=>rfl
   |cons a l=>
    cases l with
    |nil=>exact gX he h
    |cons _ _=>rfl
  |_=>rfl
 |own=>
  have h:fQ (q6 tt op us M) k:=h
  show q6 tt op us M1=q6 tt op us M
  cases op with
  |load t x=>
   cases us with
   |nil=>rfl
   |cons a l=>
    cases l with
    |nil=>exact gX he h
    |cons _ _=>rfl
  |_=>rfl
 |rows=>
  cases op with
  |load t x=>
   cases us with
   |nil=>rfl
   |cons a l=>
    cases l with
    |nil=>
     cases a with
     |rel _ _ _=>rfl
     |_=>simp only[kV] at h⊢;exact gX he h
    |cons _ _=>simp only[kV]
  |_=>rfl
 |pers=>cases op<;>rfl
 |fresh=>cases op<;>rfl
 |boxes as=>
  cases op with
  |load t x=>
   simp only[kV] at h⊢
   cases hs:gF as x with
   |none=>rfl
   |some l=>
    rw[hs] at h
    simp only at h⊢
    cases us with
    |nil=>rfl
    |cons a l=>
     cases l with
     |nil=>
      cases hb:rh as x a with
      |true=>
       simp only[hb] at h⊢
       exact gX he h
      |false=>simp only[hb]
     |cons _ _=>rfl
  |_=>rfl
theorem nh {t:TypeId} {dst:Option Tmp} {M:aj} {K:AV->aj->Prop} (h:iM tt t dst M K):∃d i,dst=some d/\tt.find t=some i/\M d=none/\K (.ptr d 0) (M.set d (.box t (i.zero.map cO))):=by
 unfold iM at h
 split at h
 ·rename_i d i ht
  split at h
  ·rename_i hd
   rw[di] at h
   exact⟨d,i,rfl,ht,hd,h⟩
  ·exact h.elim
 ·exact h.elim
theorem uz {t:TypeId} {dst:Option Tmp} {M:aj} {K:AV->aj->Prop} {d:Nat} {i:TI} (h1:dst=some d) (h2:tt.find t=some i) (h3:M d=none) (hk:K (.ptr d 0) (M.set d (.box t (i.zero.map cO)))):iM tt t dst M K:=by
 subst h1
 unfold iM
 simp only[h2,h3,di]
 exact hk
def Es (T:aj->(AV->aj->Prop)->Prop) (M:aj) (K:AV->aj->Prop):Prop:=∃d v B,M d=none/\K v (M.set d B)/\∀(M':aj) (K':AV->aj->Prop),M' d=none->K' v (M'.set d B)->T M' K'
theorem Bb {t:TypeId} {us:List AV} {dst:Option Tmp} {M:aj} {K:AV->aj->Prop} (h:lp tt t us dst M K):Es (fun M K=>lp tt t us dst M K) M K:=by
 unfold lp at h
 split at h
 ·rename_i d n c _ _ e _ ht
  split at h
  ·rename_i i hd hi
   split at h
   ·rename_i m hz hb
    rw[jp] at h
    obtain⟨h1,α,dd,enc,z,h2,hk⟩:=h
    refine⟨d,_,_,hd,hk,fun M' K' hd' hk'=>?_⟩
    unfold lp
    simp only[ht,hd',hi,hz,hb]
    rw[jp]
    rw[hb] at h1
    exact⟨h1,α,dd,enc,z,h2,hk'⟩
   ·exact h.elim
  ·exact h.elim
 ·exact h.elim
theorem rl:∀{cs:List AV},xR cs=true->∀u∈cs,zd u=true
 |[],_,u,hu=>by cases hu
 |c::cs,h,u,hu=>by
  simp only[xR] at h
  split at h
  ·rename_i hc
   rcases List.mem_cons.1 hu with e|hu
   ·rw[e];exact hc
   ·exact rl h u hu
  ·cases h
theorem pm:∀(cs:List AV) (M:aj) (K:List AV->aj->Prop),(∀u∈cs,zd u=true)->dA cs M K=K cs M
 |[],_,_,_=>rfl
 |u::us,M,K,h=>by
  have hu:=h u (List.mem_cons_self ..)
  cases u with
  |row a b c=>cases hu
  |_=>simp only[dA];rw[pm us _ _ fun x hx=>h x (List.mem_cons_of_mem _ hx)]
theorem iB:∀(css:List (List AV)) (M:aj) (K:List (List AV)->aj->Prop),(∀cs∈css,∀u∈cs,zd u=true)->iO css M K=K css M
 |[],_,_,_=>rfl
 |cs::r,M,K,h=>by
  simp only[iO]
  rw[pm cs M _ (h cs (List.mem_cons_self ..)),iB r M _ fun x hx=>h x (List.mem_cons_of_mem _ hx)]
theorem uA {u:AV} {cs:List AV} (hu:FX u=true) (h1:bL u=some cs):∀x∈cs,zd x=true:=by
 cases u with
 |agg l=>simp only[bL,Option.some.injEq] at h1;subst h1;exact rl hu
 |row a b c=>cases hu
 |top=>cases h1
 |tup l=>cases h1
 |val v=>
  simp only[bL] at h1
  split at h1
  ·simp only[Option.some.injEq] at h1;subst h1;intro x hx;rw[List.mem_singleton] at hx;subst hx;rfl
  ·cases h1
 |_=>simp only[bL,Option.some.injEq] at h1;subst h1;intro x hx;rw[List.mem_singleton] at hx;subst hx;rfl
theorem gc {n:Nat}:∀{us:List AV} {css:List (List AV)},kW us=true->eI n us=some css->∀cs∈css,∀u∈cs,zd u=true
 |[],css,_,h=>by
  simp only[eI,Option.some.injEq] at h
  subst h
  intro cs hcs
  cases hcs
 |u::us,css,hf,h=>by
  simp only[kW] at hf
  split at hf
  ·rename_i hu
   simp only[eI] at h
   split at h
   ·rename_i cs0 r0 h1 h2
    split at h
    ·simp only[Option.some.injEq] at h
     subst h
     intro cs hcs
     rcases List.mem_cons.1 hcs with e|hcs
     ·subst e
      exact uA hu h1
     ·exact gc hf h2 cs hcs
    ·cases h
   ·cases h
  ·cases hf
theorem set_set (M:aj) (d:Nat) (B C:cn):(M.set d B).set d C=M.set d C:=by
 funext x
 by_cases e:x=d
 ·subst e;rw[aj.set_eq,aj.set_eq]
 ·rw[aj.set_ne _ _ e,aj.set_ne _ _ e,aj.set_ne _ _ e]
theorem uB {d:Nat} {n sz:Nat} {t:TypeId} {α:Type} {dd:α} {enc:α->List AV} {l:List α} {M:aj} {K:AV->aj->Prop} (h:nZ (.row d n sz) (M.set d (.row t dd enc l)) K):
  ∃v B,K v (M.set d B)/\∀(M':aj) (K':AV->aj->Prop),K' v (M'.set d B)->nZ (.row d n sz) (M'.set d (.row t dd enc l)) K':=by
 rcases h.out with h|h
 ·exact⟨_,_,h,fun M' K' hk=>cb hk⟩
 ·simp only[dA,aj.set_eq,set_set] at h
  refine⟨_,_,h,fun M' K' hk=>dE ?_⟩
  simp only[dA,aj.set_eq,set_set]
  exact hk
theorem zk {t:TypeId} {len:Nat} {is:List Nat} {us:List AV} {dst:Option Tmp} {M:aj} {K:AV->aj->Prop} (hf:kW us=true) (h:ep tt t len is us dst M (rj (some r) K)):Es (fun M K=>ep tt t len is us dst M (rj (some r) K)) M K:=by
 unfold ep at h
 split at h
 ·rename_i d _ _ e _ ht
  split at h
  ·rename_i i hi
   split at h
   ·rename_i css0 c1 c2 c3 c4
    rw[iB css0 M _ (gc hf c4)] at h
    split at h
    ·rename_i hd
     split at h
     ·rename_i hp
      split at h
      ·rename_i ns hn
       obtain⟨v,B,hk,back⟩:=uB h
       refine⟨d,v,B,hd,hk,fun M' K' hd' hk'=>?_⟩
       unfold ep
       simp only[ht,hi,c1,c2,c3,c4]
       rw[iB css0 M' _ (gc hf c4)]
       simp only[hd',hp,hn]
       exact back M' K' hk'
      ·rename_i hn
       rw[gW] at h
       obtain⟨α,dd,enc,l,h1,h⟩:=h
       obtain⟨v,B,hk,back⟩:=uB h
       refine⟨d,v,B,hd,hk,fun M' K' hd' hk'=>?_⟩
       unfold ep
       simp only[ht,hi,c1,c2,c3,c4]
       rw[iB css0 M' _ (gc hf c4)]
       simp only[hd',hp,hn]
       rw[gW]
       exact⟨α,dd,enc,l,h1,back M' K' hk'⟩
     ·exact h.elim
    ·exact h.elim
   ·exact h.elim
  ·exact h.elim
 ·exact h.elim
theorem Bc {ts:List TypeId} {α:Type} {dd:α} {enc:α->List AV} {l:List α} {dst:Option Tmp} {M:aj} {K:AV->aj->Prop} (h:jR tt ts [.nilsl, .sl dd enc l] dst M K):Es (fun M K=>jR tt ts [.nilsl, .sl dd enc l] dst M K) M K:=by
 unfold jR at h
 simp only at h
 unfold fu at h
 split at h
 ·rename_i d t t' s x e
  simp only[List.cons.injEq,and_true] at e
  obtain⟨e1,e2⟩:=e
  subst e1;subst e2
  split at h
  ·rename_i _ _ e _ ht ht' hd
   split at h
   ·rename_i i hi
    split at h
    ·exact h.elim
    ·rename_i m hb
     simp only[so] at h
     split at h
     ·rename_i hsz
      rw[bC] at h
      obtain⟨h1,hk⟩:=h
      refine⟨d,_,_,hd,hk,fun M' K' hd' hk'=>?_⟩
      unfold jR
      simp only
      unfold fu
      simp only[ht,ht',hd',hi,so,hsz]
      split
      ·rename_i hb0;rw[hb] at hb0;cases hb0
      ·rw[bC];exact⟨h1,hk'⟩
     ·exact h.elim
   ·exact h.elim
  ·exact h.elim
 ·exact h.elim
theorem sH {o:Oper} (hm:Ep tt r o.op=true) {us:List AV} {M:aj} {K:AV->aj->Prop} (h:bc P tt (some r) o us M K):Es (fun M K=>bc P tt (some r) o us M K) M K:=by
 unfold bc at h⊢
 cases ho:o.op with
 |alloc t=>
  rw[ho] at h
  simp only at h⊢
  obtain⟨d,i,h1,h2,h3,hk⟩:=nh h
  exact⟨d,_,_,h3,hk,fun M' K' hd' hk'=>uz h1 h2 hd' hk'⟩
 |makeSlice t x y=>
  rw[ho] at h
  simp only at h⊢
  exact Bb h
 |buildSlice t len ps=>
  rw[ho] at h hm
  have hs:(match ww r with|true=>true|false=>sF tt t)=true:=hm
  simp only[ne,hs] at h⊢
  cases hf:kW us with
  |true=>
   rw[hf] at h
   exact zk hf h
  |false=>rw[hf] at h;exact h.elim
 |call c=>
  rw[ho] at h hm
  obtain⟨callee,args,tys⟩:=c
  cases callee with
  |builtin b=>
   cases b with
   |append=>
    simp only[Ep,Bool.and_eq_true] at hm
    have hr:r= .fresh:=by cases r<;>first|rfl|(exact absurd hm.1 (by simp[bZ]))
    subst hr
    simp only[wx,hm.2] at h⊢
    split at h
    ·exact Bc h
    ·exact h.elim
   |_=>cases hm
  |_=>cases hm
 |_=>rw[ho] at hm;cases hm
theorem rm {as:List (Nat×Nat)} {x:Operand} {a:AV} (h:rh as x a=true):∃ℓ o,a= .ptr ℓ o/\gF as x=some ℓ:=by
 cases a with
 |ptr ℓ o=>
  simp only[rh] at h
  cases hs:gF as x with
  |none=>rw[hs] at h;cases h
  |some ℓ'=>
   rw[hs] at h
   exact⟨ℓ,o,rfl,by rw[Nat.eq_of_beq_eq_true h]⟩
 |_=>cases h
theorem ml {as:List (Nat×Nat)} {t:TypeId} {p:Operand} {us:List AV} {M:aj} {K:aj->Prop} (h:dB (some (.boxes as)) tt t p us M K):∃ℓ B,gF as p=some ℓ/\K (M.set ℓ B)/\∀(M':aj) (K':aj->Prop),M' ℓ=M ℓ->K' (M'.set ℓ B)->dB (some (.boxes as)) tt t p us M' K':=by
 unfold dB at h
 simp only at h
 split at h
 ·rename_i a x
  split at h
  ·rename_i hb
   obtain⟨ℓ,o,rfl,hs⟩:=rm hb
   unfold eo at h
   simp only at h
   split at h
   ·rename_i cs i hcs ht
    split at h
    ·rename_i hsz
     split at h
     ·rename_i bt cells hM
      split at h
      ·rename_i h1 h2
       rw[di] at h
       refine⟨ℓ,_,hs,h,fun M' K' hM' hK'=>?_⟩
       unfold dB
       simp only[hb]
       unfold eo
       simp only[hcs,ht,hsz,hM',hM,h1,h2]
       rw[di]
       exact hK'
      ·exact h.elim
     ·exact h.elim
    ·exact h.elim
   ·exact h.elim
  ·exact h.elim
 ·exact h.elim
theorem uC {as:List (Nat×Nat)} {t:TypeId} {x:Operand} {us:List AV} {M:aj} {ℓ ℓ':Nat} {B:cn} (hs:gF as x=some ℓ') (hne:ℓ'≠ℓ):kV (some (.boxes as)) tt (.load t x) us (M.set ℓ B)=kV (some (.boxes as)) tt (.load t x) us M:=by
 simp only[kV,hs]
 cases us with
 |nil=>rfl
 |cons a l=>
  cases l with
  |cons _ _=>rfl
  |nil=>
   simp only
   cases hb:rh as x a with
   |false=>rfl
   |true=>
    obtain⟨k,o,rfl,hk⟩:=rm hb
    rw[hs] at hk
    cases hk
    show fp tt t (M.set ℓ B) (.ptr ℓ' o)=fp tt t M (.ptr ℓ' o)
    unfold fp
    simp only
    rw[aj.set_ne _ _ hne]
theorem Bd {x y:Oper} (ho:fx r=true->dg x.op≠2/\dg y.op≠2) (hc:(lH tt r x.op y.op||(match gJ r x.op,gJ r y.op with
  |0,_=>true
  |_,0=>true
  |1,1=>true
  |1,2=>true
  |2,1=>true
  |_,_=>false)||(pj r&&(decide (dg x.op=1)&&iA y.op||iA x.op&&decide (dg y.op=1)))||zi r x.op y.op)=true) (ux uy:List AV) (M:aj) (K:AV->AV->aj->Prop)
  (h:bc P tt (some r) x ux M fun u M1=>bc P tt (some r) y uy M1 fun v M2=>K u v M2):bc P tt (some r) y uy M fun v M2=>bc P tt (some r) x ux M2 fun u M1=>K u v M1:=by
 have rx:dg x.op=0\/dg x.op=1->∀M K,bc P tt (some r) x ux M K=fQ (kV (some r) tt x.op ux M) fun u=>K u M:=fun h M K=>ng h r ux M K
 have ry:dg y.op=0\/dg y.op=1->∀M K,bc P tt (some r) y uy M K=fQ (kV (some r) tt y.op uy M) fun u=>K u M:=fun h M K=>ng h r uy M K
 have RR:(dg x.op=0\/dg x.op=1)->(dg y.op=0\/dg y.op=1)->bc P tt (some r) y uy M fun v M2=>bc P tt (some r) x ux M2 fun u M1=>K u v M1:=by
  intro hx hy
  rw[rx hx] at h
  rw[ry hy]
  obtain⟨u,hu,h⟩:=fR h
  rw[ry hy] at h
  obtain⟨v,hv,h⟩:=fR h
  refine cD hv fun v' e=>?_
  subst e
  rw[rx hx]
  refine cD hu fun u' e=>?_
  subst e
  exact h
 have fresh0:∀op,bZ r=true->(dg op=0\/dg op=1)->gJ r op=0:=by
  intro op hr h
  have hr:r= .fresh:=by cases r<;>first|rfl|cases hr
  subst hr
  cases op with
  |load t p=>rfl
  |call c=>
   rcases h with h|h
   ·exact h
   ·obtain⟨callee,args,tys⟩:=c
    cases callee with
    |builtin b=>cases b<;>simp[dg] at h
    |_=>simp[dg] at h
  |_=>first|rfl|(rcases h with h|h<;>simp[dg] at h)
 have RC:(dg x.op=0\/dg x.op=1)->dg y.op=2->bc P tt (some r) y uy M fun v M2=>bc P tt (some r) x ux M2 fun u M1=>K u v M1:=by
  intro hx hy
  rw[rx hx] at h
  obtain⟨u,hu,h⟩:=fR h
  rcases pk (P:=P) (tt:=tt) (r:=r) hy uy with hf|⟨f,l,hf⟩
  ·rw[hf] at h;exact h.elim
  ·rw[hf] at h⊢
   by_cases hr:bZ r=true
   ·rw[iy hr] at h⊢
    refine h.mono fun v M1 hk=>?_
    rw[rx hx,xU r (fresh0 _ hr hx) ux M1 M]
    refine cD hu fun u' e=>?_
    subst e
    exact hk
   have hr:bZ r=false:=by cases hh:bZ r<;>first|rfl|exact absurd hh hr
   have hro:fx r=false:=by cases hh:fx r<;>first|rfl|exact absurd hy (ho hh).2
   rw[iz hr hro] at h⊢
   simp only[dW] at*
   obtain⟨R,n,h1,h2,h3,h4⟩:=h
   refine⟨R,n,h1,h2,h3,fun v hv=>?_⟩
   show bc P tt (some r) x ux M fun u M1=>K u v M1
   rw[rx hx]
   refine cD hu fun u' e=>?_
   subst e
   exact h4 v hv
 have CR:dg x.op=2->(dg y.op=0\/dg y.op=1)->bc P tt (some r) y uy M fun v M2=>bc P tt (some r) x ux M2 fun u M1=>K u v M1:=by
  intro hx hy
  rw[ry hy]
  rcases pk (P:=P) (tt:=tt) (r:=r) hx ux with hf|⟨f,l,hf⟩
  ·rw[hf] at h;exact h.elim
  ·rw[hf] at h
   by_cases hr:bZ r=true
   ·rw[iy hr] at h
    obtain⟨R,n,lb,L2,u',hs,ha,hb,hf2,hr2,hk⟩:=h.out
    rw[ry hy,xU r (fresh0 _ hr hy) uy _ M] at hk
    obtain⟨v,hv,hk⟩:=fR hk
    refine cD hv fun v' e=>?_
    subst e
    rw[hf,iy hr]
    exact⟨R,n,lb,L2,u',hs,ha,hb,hf2,hr2,hk⟩
   have hr:bZ r=false:=by cases hh:bZ r<;>first|rfl|exact absurd hh hr
   have hro:fx r=false:=by cases hh:fx r<;>first|rfl|exact absurd hx (ho hh).1
   rw[iz hr hro] at h
   rw[dW] at h
   obtain⟨R,n,h1,h2,⟨u0,hu0⟩,h4⟩:=h
   have h0:bc P tt (some r) y uy M fun v M2=>K u0 v M2:=h4 u0 hu0
   rw[ry hy] at h0
   obtain⟨v,hv,_⟩:=fR h0
   refine cD hv fun v' e=>?_
   subst e
   rw[hf,iz hr hro]
   rw[dW]
   refine⟨R,n,h1,h2,⟨u0,hu0⟩,fun u hu=>?_⟩
   have h5:bc P tt (some r) y uy M fun v M2=>K u v M2:=h4 u hu
   rw[ry hy] at h5
   obtain⟨v2,hv2,h6⟩:=fR h5
   rw[GL hv hv2]
   exact h6
 have NX:gJ r x.op=0->dg y.op=3->bc P tt (some r) y uy M fun v M2=>bc P tt (some r) x ux M2 fun u M1=>K u v M1:=by
  intro hx hy
  rw[rx (iQ hx)] at h
  obtain⟨u,hu,h⟩:=fR h
  obtain⟨p,hp⟩:=sG (P:=P) (tt:=tt) hy r uy M
  obtain⟨⟨v,M2⟩,h1,h2⟩:=(hp fun z=>K u z.1 z.2).1 h
  refine(hp fun z=>bc P tt (some r) x ux z.2 fun u M1=>K u z.1 M1).2 ⟨(v,M2),h1,?_⟩
  show bc P tt (some r) x ux M2 fun u M1=>K u v M1
  rw[rx (iQ hx),xU r hx ux M2 M]
  refine cD hu fun u' e=>?_
  subst e
  exact h2
 have XN:dg x.op=3->gJ r y.op=0->bc P tt (some r) y uy M fun v M2=>bc P tt (some r) x ux M2 fun u M1=>K u v M1:=by
  intro hx hy
  obtain⟨p,hp⟩:=sG (P:=P) (tt:=tt) hx r ux M
  obtain⟨⟨u,M1⟩,h1,h2⟩:=(hp fun z=>bc P tt (some r) y uy z.2 fun v M2=>K z.1 v M2).1 h
  simp only at h2
  rw[ry (iQ hy),xU r hy uy M1 M] at h2
  obtain⟨v,hv,h2⟩:=fR h2
  rw[ry (iQ hy)]
  refine cD hv fun v' e=>?_
  subst e
  exact(hp fun z=>K z.1 v' z.2).2 ⟨(u,M1),h1,h2⟩
 have LS:dg x.op=1->iA y.op=true->pj r=true->bc P tt (some r) y uy M fun v M2=>bc P tt (some r) x ux M2 fun u M1=>K u v M1:=by
  intro hx hy hr
  have hr:r= .rows:=by cases r<;>first|rfl|cases hr
  subst hr
  rw[rx (.inr hx)] at h
  obtain⟨u,hu,h⟩:=fR h
  obtain⟨t,p,hop⟩:∃t p,x.op= .load t p:=by
   cases hox:x.op with
   |load t p=>exact⟨t,p,rfl⟩
   |call c=>
    rw[hox] at hx
    obtain⟨callee,args,tys⟩:=c
    cases callee with
    |builtin b=>cases b<;>simp[dg] at hx
    |_=>simp[dg] at hx
   |_=>rw[hox] at hx;simp[dg] at hx
  cases hoy:y.op with
  |store t2 p2 q2=>
   simp only[bc,hoy] at h⊢
   obtain⟨ℓ,rt,α,d,enc,l,l',hl,hK,hback⟩:=pl h
   refine hback _ ?_
   have:=rx (.inr hx) (M.set ℓ (.row rt d enc l')) (fun u M1=>K u (.tup []) M1)
   unfold bc at this
   rw[this,hop,xW hl,<-hop]
   refine cD hu fun u' e=>?_
   subst e
   exact hK
  |_=>rw[hoy] at hy;cases hy
 have SL:iA x.op=true->dg y.op=1->pj r=true->bc P tt (some r) y uy M fun v M2=>bc P tt (some r) x ux M2 fun u M1=>K u v M1:=by
  intro hx hy hr
  have hr:r= .rows:=by cases r<;>first|rfl|cases hr
  subst hr
  rw[ry (.inr hy)]
  obtain⟨t,p,hop⟩:∃t p,y.op= .load t p:=by
   cases hox:y.op with
   |load t p=>exact⟨t,p,rfl⟩
   |call c=>
    rw[hox] at hy
    obtain⟨callee,args,tys⟩:=c
    cases callee with
    |builtin b=>cases b<;>simp[dg] at hy
    |_=>simp[dg] at hy
   |_=>rw[hox] at hy;simp[dg] at hy
  cases hoy:x.op with
  |store t2 p2 q2=>
   have h2:dB (some .rows) tt t2 p2 ux M fun M1=>bc P tt (some .rows) y uy M1 fun v M2=>K (.tup []) v M2:=by
    have:=h
    unfold bc at this
    rw[hoy] at this
    exact this
   obtain⟨ℓ,rt,α,d,enc,l,l',hl,hK,hback⟩:=pl h2
   rw[ry (.inr hy),hop,xW hl,<-hop] at hK
   refine cD hK fun v hv=>?_
   unfold bc
   rw[hoy]
   exact hback _ hv
  |_=>rw[hoy] at hx;cases hx
 have AL:lH tt r x.op y.op=true->bc P tt (some r) y uy M fun v M2=>bc P tt (some r) x ux M2 fun u M1=>K u v M1:=by
  intro hb
  unfold lH at hb
  rw[Bool.and_eq_true] at hb
  obtain⟨hy,hx⟩:=hb
  have ext:∀{d:Nat} {B:cn},M d=none->∀ℓ C,M ℓ=some C->(M.set d B) ℓ=some C:=by
   intro d B hd ℓ C hC
   rw[aj.set_ne _ _ (fun e=>by rw[e,hd] at hC;cases hC)]
   exact hC
  have rd:dg x.op=0\/dg x.op=1->bc P tt (some r) y uy M fun v M2=>bc P tt (some r) x ux M2 fun u M1=>K u v M1:=by
   intro hcx
   rw[rx hcx] at h
   obtain⟨u,hu,h⟩:=fR h
   obtain⟨d,v,B,h3,hk,back⟩:=sH hy h
   refine back M _ h3 ?_
   rw[rx hcx,Er (ext h3) hu]
   refine cD hu fun u' e=>?_
   subst e
   exact hk
  rcases kX x.op with hcx|hcx|hcx|hcx
  ·exact rd (.inl hcx)
  ·exact rd (.inr hcx)
  ·have hcm:gJ r x.op=2:=by
    cases r<;>cases hox:x.op<;>first|(rw[hox] at hcx;exact hcx)|(rw[hox] at hcx;simp[dg] at hcx)
   rw[hcm] at hx
   rcases pk (P:=P) (tt:=tt) (r:=r) hcx ux with hf|⟨f,l,hf⟩
   ·rw[hf] at h;exact h.elim
   ·rw[hf] at h
    by_cases hr:bZ r=true
    ·rw[iy hr] at h
     obtain⟨R,n,lb,L2,u',hs,ha,hb,hf2,hr2,h0⟩:=h.out
     obtain⟨d,v,B,h3,hk,back⟩:=sH hy h0
     have h4:jS P f l M fun u M1=>M1 d=none/\K u v (M1.set d B):=⟨R,n,lb,L2,u',hs,ha,hb,hf2,hr2,h3,hk⟩
     obtain⟨hd,h5⟩:=h4.beside (K:=fun u M'=>K u v M')
     refine back M _ hd ?_
     rw[hf,iy hr]
     exact h5
    have hr:bZ r=false:=by cases hh:bZ r<;>first|rfl|exact absurd hh hr
    have hro:fx r=false:=by cases hh:fx r<;>first|rfl|exact absurd hcx (ho hh).1
    have hya:xV y.op=true:=by simpa[hr] using hx
    obtain⟨t,hoy⟩:∃t,y.op= .alloc t:=by
     cases hoy:y.op with
     |alloc t=>exact⟨t,rfl⟩
     |_=>rw[hoy] at hya;cases hya
    have ey:∀M K,bc P tt (some r) y uy M K=iM tt t y.dst M K:=by
     intro M K
     unfold bc
     rw[hoy]
    rw[ey]
    rw[iz hr hro,dW] at h
    obtain⟨R,n,h1,h2,⟨u0,hu0⟩,h4⟩:=h
    have h5:=h4 u0 hu0
    rw[ey] at h5
    obtain⟨d,i,e1,e2,e3,_⟩:=nh h5
    refine uz e1 e2 e3 ?_
    rw[hf,iz hr hro,dW]
    refine⟨R,n,h1,h2,⟨u0,hu0⟩,fun u hu=>?_⟩
    have h6:=h4 u hu
    rw[ey] at h6
    obtain⟨d',i',e1',e2',e3',hk⟩:=nh h6
    rw[e1] at e1';cases e1'
    rw[e2] at e2';cases e2'
    exact hk
  ·have hcm:gJ r x.op=3:=by
    cases r<;>cases hox:x.op<;>first|(rw[hox] at hcx;exact hcx)|(rw[hox] at hcx;simp[dg] at hcx)
   rw[hcm] at hx
   obtain⟨d',v',B',f3,h,back'⟩:=sH hx h
   obtain⟨d,v,B,e3,hk,back⟩:=sH hy h
   have hne:d≠d':=fun e=>by subst e;rw[aj.set_eq] at e3;cases e3
   rw[aj.set_ne _ _ hne] at e3
   refine back M _ e3 (back' (M.set d B) _ (by rw[aj.set_ne _ _ (Ne.symm hne)];exact f3) ?_)
   rw[aj.set_comm _ _ _ hne]
   exact hk
 by_cases hbx:zi r x.op y.op=true
 ·cases r with
  |boxes as=>
   simp only[zi,Ba] at hbx
   cases hox:x.op with
   |load t1 p1=>
    cases hoy:y.op with
    |load t2 p2=>exact RR (by rw[hox];exact .inr rfl) (by rw[hoy];exact .inr rfl)
    |store t2 p2 q2=>
     rw[hox,hoy] at hbx
     simp only at hbx
     cases h1:gF as p1 with
     |none=>rw[h1] at hbx;cases hbx
     |some l1=>
      rw[rx (by rw[hox];exact .inr rfl)] at h
      obtain⟨u,hu,h⟩:=fR h
      simp only[bc,hoy] at h⊢
      obtain⟨l2,B,h2,hk,back⟩:=ml h
      rw[h1,h2] at hbx
      have hne:l1≠l2:=fun e=>by subst e;simp at hbx
      refine back M _ rfl ?_
      have e:=rx (by rw[hox];exact .inr rfl) (M.set l2 B) (fun u M1=>K u (.tup []) M1)
      unfold bc at e
      rw[e,hox,uC h1 hne,<-hox]
      refine cD hu fun u' e=>?_
      subst e
      exact hk
    |_=>exfalso;rw[hox,hoy] at hbx;simp only at hbx;cases hq:gF as p1<;>rw[hq] at hbx<;>cases hbx
   |store t1 p1 q1=>
    cases hoy:y.op with
    |load t2 p2=>
     rw[hox,hoy] at hbx
     simp only at hbx
     have h':dB (some (.boxes as)) tt t1 p1 ux M fun M1=>bc P tt (some (.boxes as)) y uy M1 fun v M2=>K (.tup []) v M2:=by
      have:=h
      unfold bc at this
      rw[hox] at this
      exact this
     obtain⟨l1,B,h1,hk,back⟩:=ml h'
     cases h2:gF as p2 with
     |none=>rw[h1,h2] at hbx;cases hbx
     |some l2=>
      rw[h1,h2] at hbx
      have hne:l2≠l1:=fun e=>by subst e;simp at hbx
      rw[ry (by rw[hoy];exact .inr rfl),hoy,uC h2 hne,<-hoy] at hk
      rw[ry (by rw[hoy];exact .inr rfl)]
      refine cD hk fun v hv=>?_
      unfold bc
      rw[hox]
      exact back M _ rfl hv
    |store t2 p2 q2=>
     rw[hox,hoy] at hbx
     simp only at hbx
     have h':dB (some (.boxes as)) tt t1 p1 ux M fun M1=>dB (some (.boxes as)) tt t2 p2 uy M1 fun M2=>K (.tup []) (.tup []) M2:=by
      have:=h
      unfold bc at this
      rw[hox,hoy] at this
      exact this
     obtain⟨l1,B1,h1,hk,back1⟩:=ml h'
     obtain⟨l2,B2,h2,hk2,back2⟩:=ml hk
     rw[h1,h2] at hbx
     have hne:l1≠l2:=fun e=>by subst e;simp at hbx
     unfold bc
     rw[hoy]
     simp only
     refine back2 M _ (by rw[aj.set_ne _ _ (Ne.symm hne)]) ?_
     rw[hox]
     simp only
     refine back1 _ _ (by rw[aj.set_ne _ _ hne]) ?_
     rw[aj.set_comm _ _ _ (Ne.symm hne)]
     exact hk2
    |_=>exfalso;rw[hox,hoy] at hbx;simp only at hbx;cases hq:gF as p1<;>rw[hq] at hbx<;>cases hbx
   |_=>exfalso;rw[hox] at hbx;simp only at hbx;cases hbx
  |_=>cases hbx
 have hbx:zi r x.op y.op=false:=by cases hh:zi r x.op y.op<;>first|rfl|exact absurd hh hbx
 rw[hbx,Bool.or_false] at hc
 by_cases hal:lH tt r x.op y.op=true
 ·exact AL hal
 have hal:lH tt r x.op y.op=false:=by cases hh:lH tt r x.op y.op<;>first|rfl|exact absurd hh hal
 rw[hal,Bool.false_or] at hc
 by_cases hsp:(pj r&&(decide (dg x.op=1)&&iA y.op||iA x.op&&decide (dg y.op=1)))=true
 ·simp only[Bool.and_eq_true,Bool.or_eq_true,decide_eq_true_eq] at hsp
  rcases hsp.2 with h2|h2
  ·exact LS h2.1 h2.2 hsp.1
  ·exact SL h2.1 h2.2 hsp.1
 replace hc:(match gJ r x.op,gJ r y.op with
  |0,_=>true
  |_,0=>true
  |1,1=>true
  |1,2=>true
  |2,1=>true
  |_,_=>false)=true:=by
  rw[Bool.or_eq_true] at hc
  exact hc.resolve_right hsp
 have cc:∀op,gJ r op=0\/gJ r op=1\/gJ r op=2\/gJ r op=3:=by
  intro op
  have:=kX op
  cases r with
  |boxes as=>
   cases op with
   |load t x=>
    simp only[gJ]
    cases gF as x with
    |none=>exact .inl rfl
    |some _=>exact .inr (.inl rfl)
   |_=>exact this
  |_=>cases op<;>first|exact .inl rfl|exact this
 rcases cc x.op with hx|hx|hx|hx<;>rcases cc y.op with hy|hy|hy|hy<;>
  first
   |exact RR (iQ hx) (iQ hy)
   |exact RR (iQ hx) (.inr (gw hy))
   |exact RR (.inr (gw hx)) (iQ hy)
   |exact RR (.inr (gw hx)) (.inr (gw hy))
   |exact RC (iQ hx) (gw hy)
   |exact RC (.inr (gw hx)) (gw hy)
   |exact CR (gw hx) (iQ hy)
   |exact CR (gw hx) (.inr (gw hy))
   |exact NX hx (gw hy)
   |exact XN (gw hx) hy
   |(rw[hx,hy] at hc;simp at hc)
theorem pn {o:Oper} (hno:fx r=true->dg o.op≠2) (us:List AV) (M:aj) (h:bc P tt (some r) o us M fun _ _=>False):False:=by
 rcases kX o.op with hc|hc|hc|hc
 ·rw[ng (.inl hc)] at h;obtain⟨_,_,h⟩:=fR h;exact h
 ·rw[ng (.inr hc)] at h;obtain⟨_,_,h⟩:=fR h;exact h
 ·rcases pk (P:=P) (tt:=tt) (r:=r) hc us with hf|⟨f,l,hf⟩
  ·rw[hf] at h;exact h
  ·rw[hf] at h
   by_cases hr:bZ r=true
   ·rw[iy hr] at h
    obtain⟨R,n,lb,L2,u',hs,ha,hb,hf2,hr2,hk⟩:=h.out
    exact hk
   have hr:bZ r=false:=by cases hh:bZ r<;>first|rfl|exact absurd hh hr
   have hro:fx r=false:=by cases hh:fx r<;>first|rfl|exact absurd hc (hno hh)
   rw[iz hr hro] at h
   rw[dW] at h
   obtain⟨R,n,h1,h2,⟨u0,hu0⟩,h4⟩:=h
   exact h4 u0 hu0
 ·obtain⟨p,hp⟩:=sG (P:=P) (tt:=tt) hc r us M
  obtain⟨_,_,h⟩:=(hp fun _=>False).1 h
  exact h
theorem gQ {o:Oper} {us:List AV} {M:aj} {K K':AV->aj->Prop} (h:bc P tt (some r) o us M K) (hk:∀u M',K u M'->K' u M'):bc P tt (some r) o us M K':=by
 rcases kX o.op with hc|hc|hc|hc
 ·rw[ng (.inl hc)] at*;exact cD h fun u=>hk u M
 ·rw[ng (.inr hc)] at*;exact cD h fun u=>hk u M
 ·rcases pk (P:=P) (tt:=tt) (r:=r) hc us with hf|⟨f,l,hf⟩
  ·rw[hf] at h;exact h.elim
  ·rw[hf] at*
   by_cases hr:bZ r=true
   ·rw[iy hr] at h⊢
    exact h.mono hk
   have hr:bZ r=false:=by cases hh:bZ r<;>first|rfl|exact absurd hh hr
   by_cases hro:fx r=true
   ·rw[xQ hro] at h⊢
    exact h.mono hk
   have hro:fx r=false:=by cases hh:fx r<;>first|rfl|exact absurd hh hro
   rw[iz hr hro] at h⊢
   simp only[dW] at*
   obtain⟨R,n,h1,h2,h3,h4⟩:=h
   exact⟨R,n,h1,h2,h3,fun u hu=>hk u M (h4 u hu)⟩
 ·obtain⟨p,hp⟩:=sG (P:=P) (tt:=tt) hc r us M
  obtain⟨z,h1,h2⟩:=(hp fun z=>K z.1 z.2).1 h
  exact(hp fun z=>K' z.1 z.2).2 ⟨z,h1,hk _ _ h2⟩
theorem cQ {o:Oper} {fr:List AV} {M:aj} {K K':List AV->aj->Prop} (h:bN P tt (some r) all o fr M K) (hk:∀f M',K f M'->K' f M'):bN P tt (some r) all o fr M K':=by
 rw[bu] at*
 split at h
 ·exact gQ h fun u M'=>hk _ _
 ·exact hk _ _ h
 ·exact h
theorem po {x y:Oper} (hc:n5 tt r all x y=true) (ho:fx r=true):dg x.op≠2/\dg y.op≠2:=by
 unfold n5 at hc
 rw[Bool.and_eq_true,Bool.and_eq_true] at hc
 have h:=hc.1.2
 rw[ho] at h
 constructor
 ·intro e
  unfold ox at h
  rw[e] at h
  simp at h
 ·intro e
  unfold ox at h
  rw[e] at h
  simp at h
theorem rn {x y:Oper} (hc:n5 tt r all x y=true) (fr:List AV) (M:aj) (K:List AV->aj->Prop)
  (h:bN P tt (some r) all x fr M fun fr1 M1=>bN P tt (some r) all y fr1 M1 K):bN P tt (some r) all y fr M fun fr2 M2=>bN P tt (some r) all x fr2 M2 K:=by
 have hno:=po hc
 unfold n5 at hc
 rw[Bool.and_eq_true,Bool.and_eq_true] at hc
 obtain⟨⟨hap,_⟩,hcl⟩:=hc
 obtain⟨a1,a2,a3⟩:=wB hap
 have a4:∀d,y.dst=some d->x.dst≠some d:=fun d hd he=>a2 d he hd
 rw[bu] at h
 cases hgx:gv all fr x.guard with
 |none=>rw[hgx] at h;exact h.elim
 |some bx=>
  rw[hgx] at h
  cases bx with
  |false=>
   simp only at h
   rw[n6 a1 a2] at h
   refine(?_:bN P tt (some r) all y fr M fun fr2 M2=>bN P tt (some r) all x fr2 M2 K)
   rw[bu] at h⊢
   split at h
   ·refine gQ h fun v M' hv=>?_
    rw[bu,(i9 (fr:=fr) a3 v).2,hgx]
    exact hv
   ·rw[bu,(i9 (fr:=fr) a3 _).2,hgx]
    exact h
   ·exact h
  |true=>
   simp only at h
   have h':bc P tt (some r) x ((aJ x.op).map (db fr)) M fun u M1=>bN P tt (some r) all y fr M1 fun fr2 M2=>K (cB fr2 x.dst u) M2:=
    gQ h fun u M1 hh=>(n6 a1 a2 (some r) fr u M1 K).1 hh
   rw[bu]
   have hx:∀v M2 K,bN P tt (some r) all x (cB fr y.dst v) M2 K↔bc P tt (some r) x ((aJ x.op).map (db fr)) M2 fun u M1=>K (cB (cB fr y.dst v) x.dst u) M1:=by
    intro v M2 K
    rw[bu,(i9 (fr:=fr) a3 v).2,hgx,(i9 (fr:=fr) a3 v).1]
   cases hgy:gv all fr y.guard with
   |none=>
    exfalso
    refine pn (fun hh=>(hno hh).1) _ _ (gQ h' fun u M1 hh=>?_)
    rw[bu,hgy] at hh
    exact hh
   |some bb=>
    cases bb with
    |false=>
     simp only
     rw[hx]
     refine gQ h' fun u M1 hh=>?_
     rw[bu,hgy] at hh
     exact hh
    |true=>
     simp only
     simp only[hx]
     refine Bd (x:=x) (y:=y) hno hcl _ _ M (fun u v M'=>K (cB (cB fr y.dst v) x.dst u) M') (gQ h' fun u M1 hh=>?_)
     rw[bu,hgy] at hh
     exact hh
end
end Go.Proofs.YtnjggjhkfncnlaaGreatDoor
namespace Go.Proofs.YtnjggjhkfncnlaaGreatDoor
def ro:Nat->List Oper->Nat->Nat->Bool
 |0,_,_,_=>false
 |n+1,all,i,j=>match all[j]? with
  |some o=>o.after.toList.any fun e=>Region.binds .any e&&(decide (e.on=i)||ro n all i e.on)
  |none=>false
def pp:List Oper->Nat->Bool
 |[],_=>true
 |o::r,k=>o.after.toList.all (fun e=>!(Region.binds .any e)||decide (e.on<k))&&pp r (k+1)
def gm (tt:TT) (r:aM) (all:List Oper):Bool:=
 pp all 0&&(List.range all.length).all fun i=>(List.range all.length).all fun j=>decide (j<=i)||
  (match all[i]?,all[j]? with|some x,some y=>n5 tt r all x y|_,_=>false)||ro all.length all i j
section
variable {P:Program} {tt:TT} {all:List Oper} {K:List AV->aj->Prop} {r:aM}
theorem ni:∀(l:List Oper) (k:Nat),pp l k=true->∀(i:Nat) o,l[i]? =some o->∀e∈o.after,Region.binds .any e=true->e.on<k+i
 |[],_,_,i,o,h=>by simp at h
 |x::r,k,h,i,o,hi=>by
  simp only[pp,Bool.and_eq_true] at h
  intro e he hb
  cases i with
  |zero=>
   simp at hi;subst hi
   have:=List.all_eq_true.1 h.1 e (by simpa using he)
   rw[hb] at this
   simpa using this
  |succ i=>
   have:=ni r (k+1) h.2 i o (by simpa using hi) e he hb
   omega
def Ip (P:Program) (tt:TT) (r:aM) (all:List Oper) (i:Nat) (fr:List AV) (M:aj) (K:List AV->aj->Prop):Prop:=
 match all[i]? with
 |none=>K fr M
 |some o=>bN P tt (some r) all o fr M K
def kr (P:Program) (tt:TT) (r:aM) (all:List Oper) (K:List AV->aj->Prop):Nat->Array Bool->List AV->aj->Prop
 |0,listed,fr,M=>Region.ready .any all.toArray listed=[]/\K fr M
 |fuel+1,listed,fr,M=>(Region.ready .any all.toArray listed=[]->K fr M)/\
  ∀i∈Region.ready .any all.toArray listed,Ip P tt r all i fr M (kr P tt r all K fuel (listed.setIfInBounds i true))
theorem rp (hT:bh P tt=true) {F:ai} {Q:Exit->Act->World->Prop}:∀(fuel:Nat) (listed:Array Bool) (S:ai) (ρ:aD) (w:World) (a:Act) (fr:List AV) (M:aj),kr P tt r all K fuel listed fr M->aF S F ρ M w->eZ S ρ a fr->
  (∀a' w',cR S F ρ w K a' w'->Q .normal a' w')->wpAny P .any all.toArray Q fuel listed a w
 |0,listed,S,ρ,w,a,fr,M,h,hM,hF,hQ=>⟨h.1,hQ _ _ ⟨fr,M,S,ρ,h.2,ai.le_refl _,aD.le_refl _,hM,hF,du.refl _⟩⟩
 |fuel+1,listed,S,ρ,w,a,fr,M,h,hM,hF,hQ=>by
  refine⟨fun h0=>hQ _ _ ⟨fr,M,S,ρ,h.1 h0,ai.le_refl _,aD.le_refl _,hM,hF,du.refl _⟩,fun i hi=>?_⟩
  have hs:=h.2 i hi
  unfold Ip at hs
  unfold wpOp
  obtain⟨_,o,ho,_⟩:=mem_ready.1 hi
  have ho':all[i]? =some o:=by simpa using ho
  rw[ho'] at hs
  rw[ho]
  simp only at hs⊢
  have hk:=mi (Q:=Q) hT hs hM hF
  have next:∀a' w',cR S F ρ w (kr P tt r all K fuel (listed.setIfInBounds i true)) a' w'->wpAny P .any all.toArray Q fuel (listed.setIfInBounds i true) a' w':=by
   rintro a' w' ⟨fr',M',S',ρ',hk,h1,h2,h3,h4,h5⟩
   exact rp hT fuel _ S' ρ' w' a' fr' M' hk h3 h4 fun a'' w'' h'=>hQ _ _ (h'.trans h1 h2 h5)
  split
  ·rename_i hw
   rw[if_pos hw] at hk
   exact .inl (Oper.wp_mono next hk)
  ·rename_i hw
   rw[if_neg hw] at hk
   exact next _ _ hk
def jy (all:List Oper) (listed:Array Bool):Prop:=
 listed.size=all.length/\∀(j:Nat) o,all[j]? =some o->listed.getD j true=true->∀e∈o.after,Region.binds .any e=true->listed.getD e.on false=true
theorem ks {listed:Array Bool} (hc:jy all listed):∀(n i j:Nat),ro n all i j=true->(∀o,all[j]? =some o->∀e∈o.after,Region.binds .any e=true->listed.getD e.on false=true)->listed.getD i false=true
 |0,i,j,h,_=>by simp[ro] at h
 |n+1,i,j,h,hj=>by
  simp only[ro] at h
  split at h
  ·rename_i o ho
   obtain⟨e,he,hb⟩:=List.any_eq_true.1 h
   rw[Bool.and_eq_true,Bool.or_eq_true] at hb
   have hl:=hj o ho e (by simpa using he) hb.1
   rcases hb.2 with h1|h1
   ·have:e.on=i:=by simpa using h1
    rw[<-this];exact hl
   ·refine ks hc n i e.on h1 fun o' ho' e' he' hb'=>hc.2 e.on o' ho' ?_ e' he' hb'
    have hlt:e.on<listed.size:=by rw[hc.1];exact(List.getElem?_eq_some_iff.1 ho').1
    simpa[hlt] using hl
  ·simp at h
theorem jz {listed:Array Bool} (hc:jy all listed) {j:Nat} (hj:j∈Region.ready .any all.toArray listed):jy all (listed.setIfInBounds j true):=by
 refine⟨by simp[hc.1],fun i o hi hl e he hb=>?_⟩
 obtain⟨_,o',ho',hall⟩:=mem_ready.1 hj
 by_cases hij:i=j
 ·subst hij
  have:o'=o:=by
   have h1:all.toArray[i]? =some o:=by simpa using hi
   rw[ho'] at h1;injection h1
  subst this
  exact getD_set_true (hall e he hb)
 ·rw[getD_set_ne true (Ne.symm hij)] at hl
  exact getD_set_true (hc.2 i o hi hl e he hb)
theorem pq {o:Oper} (hno:fx r=true->dg o.op≠2) {fr:List AV} {M:aj} (h:bN P tt (some r) all o fr M fun _ _=>False):False:=by
 rw[bu] at h
 split at h
 ·exact pn hno _ _ h
 ·exact h
 ·exact h
theorem rq (hB:gm tt r all=true) {k j:Nat} {x:Oper} (hx:all[k]? =some x) {listed:Array Bool} (hc:jy all listed) (hpre:∀m,m<k->listed.getD m true=true) (hk:k∈Region.ready .any all.toArray listed)
  (hj:j∈Region.ready .any all.toArray listed) (hjk:j≠k):∃y,all[j]? =some y/\k<j/\n5 tt r all x y=true:=by
 obtain⟨hjun,y,hy,hall⟩:=mem_ready.1 hj
 have hy':all[j]? =some y:=by simpa using hy
 have hklt:k<j:=by
  rcases Nat.lt_or_ge k j with h|h
  ·exact h
  ·exfalso
   have:=hpre j (by omega)
   rw[this] at hjun;cases hjun
 have hkun:=(mem_ready.1 hk).1
 have hlen:=(List.getElem?_eq_some_iff.1 hx).1
 have hjlen:=(List.getElem?_eq_some_iff.1 hy').1
 refine⟨y,hy',hklt,?_⟩
 unfold gm at hB
 rw[Bool.and_eq_true] at hB
 have h1:=List.all_eq_true.1 hB.2 k (List.mem_range.2 hlen)
 have h2:=List.all_eq_true.1 h1 j (List.mem_range.2 hjlen)
 rw[hx,hy',Bool.or_eq_true,Bool.or_eq_true] at h2
 rcases h2 with (h2|h2)|h2
 ·simp at h2;omega
 ·exact h2
 ·exfalso
  have:=ks hc _ k j h2 (fun o ho e he hb=>by
   rw[hy'] at ho;cases ho;exact hall e he hb)
  have hks:k<listed.size:=by rw[hc.1];exact hlen
  simp[hks] at this hkun
  rw[this] at hkun;cases hkun
theorem wC (hB:gm tt r all=true) {k:Nat} {x:Oper} (hx:all[k]? =some x):∀(fuel:Nat) (listed:Array Bool) (fr:List AV) (M:aj),jy all listed->(∀m,m<k->listed.getD m true=true)->
  k∈Region.ready .any all.toArray listed->bN P tt (some r) all x fr M (kr P tt r all K fuel (listed.setIfInBounds k true))->kr P tt r all K (fuel+1) listed fr M:=by
 intro fuel
 induction fuel with
 |zero=>
  intro listed fr M hc hpre hk H
  refine⟨fun h=>(by rw[h] at hk;cases hk),fun j hj=>?_⟩
  by_cases hjk:j=k
  ·subst hjk
   unfold Ip
   rw[hx]
   exact H
  ·exfalso
   obtain⟨y,_,_,hcomm⟩:=rq hB hx hc hpre hk hj hjk
   refine pq (fun ho=>(po hcomm ho).1) (cQ H fun f M' h=>?_)
   have:=ready_mono hj hjk
   rw[h.1] at this
   cases this
 |succ fuel ih=>
  intro listed fr M hc hpre hk H
  refine⟨fun h=>(by rw[h] at hk;cases hk),fun j hj=>?_⟩
  by_cases hjk:j=k
  ·subst hjk
   unfold Ip
   rw[hx]
   exact H
  ·obtain⟨y,hy',hklt,hcomm⟩:=rq hB hx hc hpre hk hj hjk
   unfold Ip
   rw[hy']
   have H2:=cQ H fun f M' (h:kr P tt r all K (fuel+1) (listed.setIfInBounds k true) f M')=>h.2 j (ready_mono hj hjk)
   have H3:bN P tt (some r) all x fr M fun f M'=>bN P tt (some r) all y f M' (kr P tt r all K fuel ((listed.setIfInBounds k true).setIfInBounds j true)):=
    cQ H2 fun f M' h=>by unfold Ip at h;rw[hy'] at h;exact h
   have H4:=rn hcomm fr M _ H3
   refine cQ H4 fun f M' h=>?_
   refine ih (listed.setIfInBounds j true) f M' (jz hc hj) (fun m hm=>by rw[getD_set_ne true (by omega)];exact hpre m hm) (ready_mono hk (fun e=>hjk e.symm)) ?_
   rw[Array.setIfInBounds_comm _ _ hjk]
   exact h
theorem rr (hB:gm tt r all=true):∀(l:List Oper) (k:Nat) (listed:Array Bool) (fr:List AV) (M:aj),all.drop k=l->k+l.length=all.length->jy all listed->(∀m,m<k->listed.getD m true=true)->(∀m,k<=m->m<all.length->listed.getD m true=false)->
  dv P tt (some r) all l fr M K->kr P tt r all K l.length listed fr M
 |[],k,listed,fr,M,hd,hl,hc,h1,h2,h=>by
  refine⟨?_,h⟩
  cases hr:Region.ready .any all.toArray listed with
  |nil=>rfl
  |cons j r=>
   have hj:j∈Region.ready .any all.toArray listed:=by rw[hr];simp
   obtain⟨hu,o,ho,_⟩:=mem_ready.1 hj
   have:j<all.length:=by have:=(Array.getElem?_eq_some_iff.1 ho).1;simpa using this
   simp at hl
   rw[h1 j (by omega)] at hu;cases hu
 |o::r,k,listed,fr,M,hd,hl,hc,h1,h2,h=>by
  simp only[List.length_cons] at hl⊢
  have hk:all[k]? =some o:=by
   have:(all.drop k)[0]? =some o:=by rw[hd];rfl
   rw[List.getElem?_drop] at this
   simpa using this
  have hB':=hB
  unfold gm at hB'
  rw[Bool.and_eq_true] at hB'
  have hready:k∈Region.ready .any all.toArray listed:=by
   rw[mem_ready]
   refine⟨h2 k (Nat.le_refl _) (by omega),o,by simpa using hk,fun e he hb=>?_⟩
   have hlt:=ni all 0 hB'.1 k o hk e he hb
   have:=h1 e.on (by omega)
   have hs:e.on<listed.size:=by rw[hc.1];omega
   simpa[hs] using this
  refine wC hB hk r.length listed fr M hc h1 hready (cQ h fun f M' hh=>?_)
  refine rr hB r (k+1) _ f M' (by rw[<-List.drop_drop,hd];rfl) (by omega) (jz hc hready) (fun m hm=>?_) (fun m hm hml=>?_) hh
  ·by_cases e:m=k
   ·subst e
    have hs:m<listed.size:=by rw[hc.1];omega
    simp[hs]
   ·rw[getD_set_ne true (Ne.symm e)];exact h1 m (by omega)
  ·rw[getD_set_ne true (by omega)];exact h2 m (by omega) hml
theorem uD (hT:bh P tt=true) (hm:P.follows .mixedOrders=true) (hB:gm tt r all=true) {S F:ai} {ρ:aD} {M:aj} {w:World} {a:Act} {fr:List AV} {id:Nat} {Q:Exit->Act->World->Prop}
  (h:dv P tt (some r) all all fr M K) (hM:aF S F ρ M w) (hF:eZ S ρ a fr) (hQ:∀a' w',cR S F ρ w K a' w'->Q .normal a' w'):(Code.region id all.toArray true).wp P Q a w:=by
 refine wp_region_any hm ?_
 have hA:=rr (P:=P) (tt:=tt) (K:=K) hB all 0 (Array.replicate all.length false) fr M rfl (by simp) ⟨by simp,fun j o hj hl=>by
   have:=(List.getElem?_eq_some_iff.1 hj).1
   simp[this] at hl⟩ (by simp) (fun m _ hm=>by simp[hm]) h
 have:=rp hT all.length _ S ρ {w with drawn:=w.drawn+1} a fr M hA (hM.drawn _) hF (Q:=Q) (fun a' w' h'=>hQ a' w' (h'.trans (ai.le_refl _) (aD.le_refl _) (du.drawn _ _ (Nat.le_succ _))))
 simpa using this
end
def Et (ds:List Nat) (o:Oper):Bool:=match o.dst with
 |some d=>!(ds.any (Nat.beq d))
 |none=>true
def D1 (r:aM) (ds:List Nat) (o:Oper):aM:=match Et ds o with
 |true=>r
 |false=> .own
theorem FZ {r:aM} {ds:List Nat} {o:Oper} (h:Et ds o=true):D1 r ds o=r:=by unfold D1;rw[h]
def jA (tt:TT) (r:aM) (ds:List Nat) (all:List Oper):Bool:=
 pp all 0&&(List.range all.length).all fun i=>(List.range all.length).all fun j=>decide (j<=i)||
  (match all[i]?,all[j]? with|some x,some y=>Et ds x&&Et ds y&&n5 tt r all x y|_,_=>false)||ro all.length all i j
def rz (P:Program) (tt:TT) (r:aM) (ds:List Nat) (all:List Oper):List Oper->List AV->aj->(List AV->aj->Prop)->Prop
 |[],fr,M,K=>K fr M
 |o::l,fr,M,K=>bN P tt (some (D1 r ds o)) all o fr M fun fr' M'=>rz P tt r ds all l fr' M' K
section
variable {P:Program} {tt:TT} {all:List Oper} {K:List AV->aj->Prop} {r:aM} {ds:List Nat}
def zl (P:Program) (tt:TT) (r:aM) (ds:List Nat) (all:List Oper) (i:Nat) (fr:List AV) (M:aj) (K:List AV->aj->Prop):Prop:=
 match all[i]? with
 |none=>K fr M
 |some o=>bN P tt (some (D1 r ds o)) all o fr M K
def gK (P:Program) (tt:TT) (r:aM) (ds:List Nat) (all:List Oper) (K:List AV->aj->Prop):Nat->Array Bool->List AV->aj->Prop
 |0,listed,fr,M=>Region.ready .any all.toArray listed=[]/\K fr M
 |fuel+1,listed,fr,M=>(Region.ready .any all.toArray listed=[]->K fr M)/\
  ∀i∈Region.ready .any all.toArray listed,zl P tt r ds all i fr M (gK P tt r ds all K fuel (listed.setIfInBounds i true))
theorem pr (hT:bh P tt=true) {F:ai} {Q:Exit->Act->World->Prop}:∀(fuel:Nat) (listed:Array Bool) (S:ai) (ρ:aD) (w:World) (a:Act) (fr:List AV) (M:aj),gK P tt r ds all K fuel listed fr M->aF S F ρ M w->eZ S ρ a fr->
  (∀a' w',cR S F ρ w K a' w'->Q .normal a' w')->wpAny P .any all.toArray Q fuel listed a w
 |0,listed,S,ρ,w,a,fr,M,h,hM,hF,hQ=>⟨h.1,hQ _ _ ⟨fr,M,S,ρ,h.2,ai.le_refl _,aD.le_refl _,hM,hF,du.refl _⟩⟩
 |fuel+1,listed,S,ρ,w,a,fr,M,h,hM,hF,hQ=>by
  refine⟨fun h0=>hQ _ _ ⟨fr,M,S,ρ,h.1 h0,ai.le_refl _,aD.le_refl _,hM,hF,du.refl _⟩,fun i hi=>?_⟩
  have hs:=h.2 i hi
  unfold zl at hs
  unfold wpOp
  obtain⟨_,o,ho,_⟩:=mem_ready.1 hi
  have ho':all[i]? =some o:=by simpa using ho
  rw[ho'] at hs
  rw[ho]
  simp only at hs⊢
  have hk:=mi (Q:=Q) hT hs hM hF
  have next:∀a' w',cR S F ρ w (gK P tt r ds all K fuel (listed.setIfInBounds i true)) a' w'->wpAny P .any all.toArray Q fuel (listed.setIfInBounds i true) a' w':=by
   rintro a' w' ⟨fr',M',S',ρ',hk,h1,h2,h3,h4,h5⟩
   exact pr hT fuel _ S' ρ' w' a' fr' M' hk h3 h4 fun a'' w'' h'=>hQ _ _ (h'.trans h1 h2 h5)
  split
  ·rename_i hw
   rw[if_pos hw] at hk
   exact .inl (Oper.wp_mono next hk)
  ·rename_i hw
   rw[if_neg hw] at hk
   exact next _ _ hk
theorem pt (hB:jA tt r ds all=true) {k j:Nat} {x:Oper} (hx:all[k]? =some x) {listed:Array Bool} (hc:jy all listed) (hpre:∀m,m<k->listed.getD m true=true) (hk:k∈Region.ready .any all.toArray listed)
  (hj:j∈Region.ready .any all.toArray listed) (hjk:j≠k):∃y,all[j]? =some y/\k<j/\D1 r ds x=r/\D1 r ds y=r/\n5 tt r all x y=true:=by
 obtain⟨hjun,y,hy,hall⟩:=mem_ready.1 hj
 have hy':all[j]? =some y:=by simpa using hy
 have hklt:k<j:=by
  rcases Nat.lt_or_ge k j with h|h
  ·exact h
  ·exfalso
   have:=hpre j (by omega)
   rw[this] at hjun;cases hjun
 have hkun:=(mem_ready.1 hk).1
 have hlen:=(List.getElem?_eq_some_iff.1 hx).1
 have hjlen:=(List.getElem?_eq_some_iff.1 hy').1
 refine⟨y,hy',hklt,?_⟩
 unfold jA at hB
 rw[Bool.and_eq_true] at hB
 have h1:=List.all_eq_true.1 hB.2 k (List.mem_range.2 hlen)
 have h2:=List.all_eq_true.1 h1 j (List.mem_range.2 hjlen)
 rw[hx,hy',Bool.or_eq_true,Bool.or_eq_true] at h2
 rcases h2 with (h2|h2)|h2
 ·simp at h2;omega
 ·rw[Bool.and_eq_true,Bool.and_eq_true] at h2
  exact⟨FZ h2.1.1,FZ h2.1.2,h2.2⟩
 ·exfalso
  have:=ks hc _ k j h2 (fun o ho e he hb=>by
   rw[hy'] at ho;cases ho;exact hall e he hb)
  have hks:k<listed.size:=by rw[hc.1];exact hlen
  simp[hks] at this hkun
  rw[this] at hkun;cases hkun
theorem uE (hB:jA tt r ds all=true) {k:Nat} {x:Oper} (hx:all[k]? =some x):∀(fuel:Nat) (listed:Array Bool) (fr:List AV) (M:aj),jy all listed->(∀m,m<k->listed.getD m true=true)->
  k∈Region.ready .any all.toArray listed->bN P tt (some (D1 r ds x)) all x fr M (gK P tt r ds all K fuel (listed.setIfInBounds k true))->gK P tt r ds all K (fuel+1) listed fr M:=by
 intro fuel
 induction fuel with
 |zero=>
  intro listed fr M hc hpre hk H
  refine⟨fun h=>(by rw[h] at hk;cases hk),fun j hj=>?_⟩
  by_cases hjk:j=k
  ·subst hjk
   unfold zl
   rw[hx]
   exact H
  ·exfalso
   obtain⟨y,_,_,ex,_,hcomm⟩:=pt hB hx hc hpre hk hj hjk
   rw[ex] at H
   refine pq (fun ho=>(po hcomm ho).1) (cQ H fun f M' h=>?_)
   have:=ready_mono hj hjk
   rw[h.1] at this
   cases this
 |succ fuel ih=>
  intro listed fr M hc hpre hk H
  refine⟨fun h=>(by rw[h] at hk;cases hk),fun j hj=>?_⟩
  by_cases hjk:j=k
  ·subst hjk
   unfold zl
   rw[hx]
   exact H
  ·obtain⟨y,hy',hklt,ex,ey,hcomm⟩:=pt hB hx hc hpre hk hj hjk
   unfold zl
   rw[hy']
   have H2:=cQ H fun f M' (h:gK P tt r ds all K (fuel+1) (listed.setIfInBounds k true) f M')=>h.2 j (ready_mono hj hjk)
   have H3:bN P tt (some (D1 r ds x)) all x fr M fun f M'=>bN P tt (some (D1 r ds y)) all y f M' (gK P tt r ds all K fuel ((listed.setIfInBounds k true).setIfInBounds j true)):=
    cQ H2 fun f M' h=>by unfold zl at h;rw[hy'] at h;exact h
   rw[ex,ey] at H3
   have H4:=rn hcomm fr M _ H3
   show bN P tt (some (D1 r ds y)) all y fr M (gK P tt r ds all K (fuel+1) (listed.setIfInBounds j true))
   rw[ey]
   refine cQ H4 fun f M' h=>?_
   refine ih (listed.setIfInBounds j true) f M' (jz hc hj) (fun m hm=>by rw[getD_set_ne true (by omega)];exact hpre m hm) (ready_mono hk (fun e=>hjk e.symm)) ?_
   rw[Array.setIfInBounds_comm _ _ hjk,ex]
   exact h
theorem pu (hB:jA tt r ds all=true):∀(l:List Oper) (k:Nat) (listed:Array Bool) (fr:List AV) (M:aj),all.drop k=l->k+l.length=all.length->jy all listed->(∀m,m<k->listed.getD m true=true)->(∀m,k<=m->m<all.length->listed.getD m true=false)->
  rz P tt r ds all l fr M K->gK P tt r ds all K l.length listed fr M
 |[],k,listed,fr,M,hd,hl,hc,h1,h2,h=>by
  refine⟨?_,h⟩
  cases hr:Region.ready .any all.toArray listed with
  |nil=>rfl
  |cons j r=>
   have hj:j∈Region.ready .any all.toArray listed:=by rw[hr];simp
   obtain⟨hu,o,ho,_⟩:=mem_ready.1 hj
   have:j<all.length:=by have:=(Array.getElem?_eq_some_iff.1 ho).1;simpa using this
   simp at hl
   rw[h1 j (by omega)] at hu;cases hu
 |o::r,k,listed,fr,M,hd,hl,hc,h1,h2,h=>by
  simp only[List.length_cons] at hl⊢
  have hk:all[k]? =some o:=by
   have:(all.drop k)[0]? =some o:=by rw[hd];rfl
   rw[List.getElem?_drop] at this
   simpa using this
  have hB':=hB
  unfold jA at hB'
  rw[Bool.and_eq_true] at hB'
  have hready:k∈Region.ready .any all.toArray listed:=by
   rw[mem_ready]
   refine⟨h2 k (Nat.le_refl _) (by omega),o,by simpa using hk,fun e he hb=>?_⟩
   have hlt:=ni all 0 hB'.1 k o hk e he hb
   have:=h1 e.on (by omega)
   have hs:e.on<listed.size:=by rw[hc.1];omega
   simpa[hs] using this
  refine uE hB hk r.length listed fr M hc h1 hready (cQ h fun f M' hh=>?_)
  refine pu hB r (k+1) _ f M' (by rw[<-List.drop_drop,hd];rfl) (by omega) (jz hc hready) (fun m hm=>?_) (fun m hm hml=>?_) hh
  ·by_cases e:m=k
   ·subst e
    have hs:m<listed.size:=by rw[hc.1];omega
    simp[hs]
   ·rw[getD_set_ne true (Ne.symm e)];exact h1 m (by omega)
  ·rw[getD_set_ne true (by omega)];exact h2 m (by omega) hml
theorem sJ (hT:bh P tt=true) (hm:P.follows .mixedOrders=true) (hB:jA tt r ds all=true) {S F:ai} {ρ:aD} {M:aj} {w:World} {a:Act} {fr:List AV} {id:Nat} {Q:Exit->Act->World->Prop}
  (h:rz P tt r ds all all fr M K) (hM:aF S F ρ M w) (hF:eZ S ρ a fr) (hQ:∀a' w',cR S F ρ w K a' w'->Q .normal a' w'):(Code.region id all.toArray true).wp P Q a w:=by
 refine wp_region_any hm ?_
 have hA:=pu (P:=P) (tt:=tt) (K:=K) hB all 0 (Array.replicate all.length false) fr M rfl (by simp) ⟨by simp,fun j o hj hl=>by
   have:=(List.getElem?_eq_some_iff.1 hj).1
   simp[this] at hl⟩ (by simp) (fun m _ hm=>by simp[hm]) h
 have:=pr hT all.length _ S ρ {w with drawn:=w.drawn+1} a fr M hA (hM.drawn _) hF (Q:=Q) (fun a' w' h'=>hQ a' w' (h'.trans (ai.le_refl _) (aD.le_refl _) (du.drawn _ _ (Nat.le_succ _))))
 simpa using this
end
def cC (all:List Oper) (done:List Nat):List Nat:=
 (List.range all.length).filter fun i=>!(done.any (Nat.beq i))&&(match all[i]? with|some o=>o.after.toList.all fun e=>!(Region.binds .any e)||(decide (e.on<all.length)&&done.any (Nat.beq e.on))|none=>false)
def lJ:List Nat->(Nat->Prop)->Prop
 |[],_=>True
 |i::l,f=>f i/\lJ l f
def v4 (P:Program) (tt:TT) (d:Option aM) (all:List Oper) (i:Nat) (fr:List AV) (M:aj) (K:List AV->aj->Prop):Prop:=
 match all[i]? with
 |none=>K fr M
 |some o=>bN P tt d all o fr M K
def bd (P:Program) (tt:TT) (d:Option aM) (all:List Oper) (K:List AV->aj->Prop):Nat->List Nat->List AV->aj->Prop
 |0,done,fr,M=>match cC all done with
  |[]=>K fr M
  |_::_=>False
 |n+1,done,fr,M=>match cC all done with
  |[]=>K fr M
  |i::l=>lJ (i::l) fun j=>v4 P tt d all j fr M (bd P tt d all K n (j::done))
theorem uF {f:Nat->Prop}:∀{l:List Nat},lJ l f->∀i∈l,f i
 |_::_,h,i,hi=>by
  rcases List.mem_cons.1 hi with rfl|hi
  ·exact h.1
  ·exact uF h.2 i hi
section
variable {P:Program} {tt:TT} {all:List Oper} {K:List AV->aj->Prop} {fr:List AV} {M:aj}
theorem fy {done:List Nat} {i:Nat}:done.any (Nat.beq i)=true↔i∈done:=by
 rw[List.any_eq_true]
 constructor
 ·rintro⟨x,hx,h⟩;rw[Nat.eq_of_beq_eq_true h];exact hx
 ·intro h;exact⟨i,h,by simp⟩
theorem px {listed:Array Bool} {done:List Nat} (hs:listed.size=all.length) (hl:∀i,i<all.length->(listed.getD i true=true↔i∈done)) {i:Nat}:i∈cC all done↔i∈Region.ready .any all.toArray listed:=by
 have key:∀e,listed.getD e false=true↔e<all.length/\e∈done:=by
  intro e
  rcases Nat.lt_or_ge e listed.size with h|h
  ·rw[<-hs]
   refine⟨fun h1=>⟨h,(hl e (by omega)).1 (by simpa[h] using h1)⟩,fun h1=>?_⟩
   have:=(hl e (by omega)).2 h1.2
   simpa[h] using this
  ·refine⟨fun h1=>?_,fun h1=>by omega⟩
   simp[Array.getD,Nat.not_lt.2 h] at h1
 rw[mem_ready]
 unfold cC
 rw[List.mem_filter]
 constructor
 ·rintro⟨h1,h2⟩
  have hi:=List.mem_range.1 h1
  rw[Bool.and_eq_true,Bool.not_eq_true',Bool.eq_false_iff] at h2
  obtain⟨h2,h3⟩:=h2
  refine⟨?_,?_⟩
  ·rw[Bool.eq_false_iff]
   exact fun h=>h2 (fy.2 ((hl i hi).1 h))
  ·have ho:all[i]? =some all[i]:=List.getElem?_eq_getElem hi
   rw[ho] at h3
   refine⟨all[i],by simp,fun e he hb=>?_⟩
   have:=List.all_eq_true.1 h3 e (by simpa using he)
   rw[hb,Bool.not_true,Bool.false_or,Bool.and_eq_true] at this
   exact(key e.on).2 ⟨by simpa using this.1,fy.1 this.2⟩
 ·rintro⟨hu,o,ho,ha⟩
  have ho':all[i]? =some o:=by simpa using ho
  have hi:=(List.getElem?_eq_some_iff.1 ho').1
  refine⟨List.mem_range.2 hi,?_⟩
  rw[ho',Bool.and_eq_true]
  constructor
  ·rw[Bool.not_eq_true',Bool.eq_false_iff]
   intro hd
   have:=(hl i hi).2 (fy.1 hd)
   rw[this] at hu;cases hu
  ·dsimp only
   rw[List.all_eq_true]
   intro e he
   cases hb:Region.binds .any e with
   |false=>rfl
   |true=>
    have h1:=(key e.on).1 (ha e (by simpa using he) hb)
    rw[Bool.not_true,Bool.false_or,Bool.and_eq_true]
    exact⟨by simpa using h1.1,fy.2 h1.2⟩
theorem wD {listed:Array Bool} {done:List Nat} (hs:listed.size=all.length) (hl:∀i,i<all.length->(listed.getD i true=true↔i∈done)) {j:Nat} (hj:j<all.length):
  ∀i,i<all.length->((listed.setIfInBounds j true).getD i true=true↔i∈j::done):=by
 intro i hi
 by_cases e:i=j
 ·subst e
  have:i<listed.size:=by omega
  simp[this]
 ·rw[getD_set_ne true (Ne.symm e),hl i hi]
  simp[e]
theorem nj {listed:Array Bool} {done:List Nat} (hs:listed.size=all.length) (hl:∀i,i<all.length->(listed.getD i true=true↔i∈done)):cC all done=[]↔Region.ready .any all.toArray listed=[]:=by
 rw[List.eq_nil_iff_forall_not_mem,List.eq_nil_iff_forall_not_mem]
 exact⟨fun h i hi=>h i ((px hs hl).2 hi),fun h i hi=>h i ((px hs hl).1 hi)⟩
theorem uG {d:Option aM} (hT:bh P tt=true) {F:ai} {Q:Exit->Act->World->Prop}:∀(n:Nat) (done:List Nat) (listed:Array Bool) (S:ai) (ρ:aD) (w:World) (a:Act) (fr:List AV) (M:aj),listed.size=all.length->(∀i,i<all.length->(listed.getD i true=true↔i∈done))->
  bd P tt d all K n done fr M->aF S F ρ M w->eZ S ρ a fr->(∀a' w',cR S F ρ w K a' w'->Q .normal a' w')->wpAny P .any all.toArray Q n listed a w
 |0,done,listed,S,ρ,w,a,fr,M,hs,hl,h,hM,hF,hQ=>by
  unfold bd at h
  split at h
  ·rename_i h0;exact⟨(nj hs hl).1 h0,hQ _ _ ⟨fr,M,S,ρ,h,ai.le_refl _,aD.le_refl _,hM,hF,du.refl _⟩⟩
  ·exact h.elim
 |n+1,done,listed,S,ρ,w,a,fr,M,hs,hl,h,hM,hF,hQ=>by
  unfold bd at h
  split at h
  ·rename_i h0
   have:=(nj hs hl).1 h0
   exact⟨fun _=>hQ _ _ ⟨fr,M,S,ρ,h,ai.le_refl _,aD.le_refl _,hM,hF,du.refl _⟩,fun i hi=>by rw[this] at hi;cases hi⟩
  ·rename_i i l h0
   rw[<-h0] at h
   refine⟨fun h1=>?_,fun j hj=>?_⟩
   ·rw[(nj hs hl).2 h1] at h0;cases h0
   have hjr:=(px hs hl).2 hj
   have h2:=uF h j hjr
   have hjl:j<all.length:=by
    unfold cC at hjr
    exact List.mem_range.1 (List.mem_filter.1 hjr).1
   unfold v4 at h2
   unfold wpOp
   obtain⟨_,o,ho,_⟩:=mem_ready.1 hj
   have ho':all[j]? =some o:=by simpa using ho
   rw[ho'] at h2
   rw[ho]
   simp only at h2⊢
   have hk:=mi (Q:=Q) hT h2 hM hF
   have next:∀a' w',cR S F ρ w (bd P tt d all K n (j::done)) a' w'->wpAny P .any all.toArray Q n (listed.setIfInBounds j true) a' w':=by
    rintro a' w' ⟨fr',M',S',ρ',hk,h1,h2,h3,h4,h5⟩
    exact uG hT n (j::done) _ S' ρ' w' a' fr' M' (by simpa using hs) (wD hs hl hjl) hk h3 h4 fun a'' w'' h'=>hQ _ _ (h'.trans h1 h2 h5)
   split
   ·rename_i hw
    rw[if_pos hw] at hk
    exact .inl (Oper.wp_mono next hk)
   ·rename_i hw
    rw[if_neg hw] at hk
    exact next _ _ hk
theorem sK {d:Option aM} (hT:bh P tt=true) (hm:P.follows .mixedOrders=true) {S F:ai} {ρ:aD} {w:World} {a:Act} {id:Nat} {Q:Exit->Act->World->Prop}
  (h:bd P tt d all K all.length [] fr M) (hM:aF S F ρ M w) (hF:eZ S ρ a fr) (hQ:∀a' w',cR S F ρ w K a' w'->Q .normal a' w'):(Code.region id all.toArray true).wp P Q a w:=by
 refine wp_region_any hm ?_
 have:=uG hT all.length [] (Array.replicate all.length false) S ρ {w with drawn:=w.drawn+1} a fr M (by simp) (fun i hi=>by simp[hi]) h (hM.drawn _) hF (Q:=Q) (fun a' w' h'=>hQ a' w' (h'.trans (ai.le_refl _) (aD.le_refl _) (du.drawn _ _ (Nat.le_succ _))))
 simpa using this
end
end Go.Proofs.YtnjggjhkfncnlaaGreatDoor
