import Derived.Test.YtblcpnmnibcbbaaGreatDoorG2
set_option linter.unusedVariables false
set_option linter.unusedSimpArgs false
namespace Go.Proofs.YtblcpnmnibcbbaaGreatDoor
section
def iO (S F:ae) (ρ:aw) (w:World) (R:AV->ah->Prop) (e:Ending) (w':World):Prop:=
 ∃v u M' S' ρ',e= .returned v/\R u M'/\S.le S'/\aw.le ρ ρ'/\az S' F ρ' M' w'/\RV S' ρ' v u/\bX w w'
def kc (P:Program) (f:FuncId):Prop:=∃fn,P.funcs[f]? =some fn/\(fn.name== "runtime.NumGoroutine")=false/\fn.body.isNone=false
structure ar (P:Program) (f:FuncId) (args:List AV) (M:ah) (R:AV->ah->Prop):Prop where
 out:kc P f/\∀S F ρ vs w,az S F ρ M w->ba S ρ vs args->Calls P f vs.toArray w (iO S F ρ w R)
theorem bP {P:Program} {f:FuncId} {args:List AV} {M:ah} {R:AV->ah->Prop}:ar P f args M R↔(kc P f/\∀S F ρ vs w,az S F ρ M w->ba S ρ vs args->Calls P f vs.toArray w (iO S F ρ w R)):=⟨fun h=>h.out,fun h=>⟨h⟩⟩
def lZ (S F:ae) (w:World) (R:AV->Prop) (e:Ending) (w':World):Prop:=
 ∃v u S',e= .returned v/\R u/\S.le S'/\S'.inW w'/\F.inW w'/\(∀b,S' b=none\/F b=none)/\RP S' v u/\bX w w'
structure aa (P:Program) (f:FuncId) (args:List AV) (R:AV->Prop):Prop where
 out:kc P f/\∀S F vs w,Gl S->S.inW w->F.inW w->(∀b,S b=none\/F b=none)->lr S vs args->Calls P f vs.toArray w (lZ S F w R)
theorem fG {P:Program} {f:FuncId} {args:List AV} {R:AV->Prop}:aa P f args R↔(kc P f/\∀S F vs w,Gl S->S.inW w->F.inW w->(∀b,S b=none\/F b=none)->lr S vs args->Calls P f vs.toArray w (lZ S F w R)):=⟨fun h=>h.out,fun h=>⟨h⟩⟩
def b9:Nat->AV->Bool
 |0,_=>false
 |n+1, .agg cs=>cs.all (b9 n)
 |n+1, .tup cs=>cs.all (b9 n)
 |n+1, .fn _ cs=>cs.all (b9 n)
 |_+1, .ptr _ _=>false
 |_+1, .row _ _ _=>false
 |_+1, .rel _ _ _=>false
 |_+1, .part _ _ _ _=>false
 |_+1, .mp _=>false
 |_+1,_=>true
section
variable {S F:ae} {ρ:aw} {M:ah} {w:World} {P:Program}
theorem ke:∀(n:Nat) {u:AV} {v:Value},b9 n u=true->RV S ρ v u->RP S v u:=by
 intro n
 induction n with
 |zero=>intro u v h;simp[b9] at h
 |succ n ih=>
  intro u v h hv
  have hl:∀{cs:List AV} {vs:Array Value},cs.all (b9 n)=true->ba S ρ vs.toList cs->vs.size=cs.length/\∃vals:Nat->Value,(∀i,i<vs.size->vs[i]? =some (vals i))/\∀(j:Nat) u,cs[j]? =some u->RP S (vals j) u:=by
   intro cs vs ha hr
   have hs:=hr.1
   simp only[Array.length_toList] at hs
   refine⟨hs,fun i=>vs.getD i undef,fun i hi=>by simp[hi],fun j x hx=>?_⟩
   obtain⟨y,hy,hyr⟩:=hr.2 j x hx
   have:vs.getD j undef=y:=by
    have hy':vs[j]? =some y:=by simpa using hy
    simp[hy']
   show RP S (vs.getD j undef) x
   rw[this]
   exact ih (List.all_eq_true.1 ha x (List.mem_of_getElem? hx)) hyr
  cases u with
  |agg cs=>
   obtain⟨vs,rfl,hr⟩:=hv.agg_inv
   obtain⟨hs,vals,he,hvv⟩:=hl h hr
   exact .agg cs vs hs vals he hvv
  |tup cs=>
   obtain⟨vs,rfl,hr⟩:=hv.tup_inv
   obtain⟨hs,vals,he,hvv⟩:=hl h hr
   exact .tup cs vs hs vals he hvv
  |fn f cs=>
   obtain⟨vs,rfl,hr⟩:=hv.fn_inv
   obtain⟨hs,vals,he,hvv⟩:=hl h hr
   exact .fn f cs vs hs vals he hvv
  |ptr _ _=>simp[b9] at h
  |row _ _ _=>simp[b9] at h
  |rel _ _ _=>simp[b9] at h
  |part _ _ _ _=>simp[b9] at h
  |mp _=>simp[b9] at h
  |top=>exact .top _
  |int k n=>rw[hv.int_inv];exact .int _ _
  |bool b=>rw[hv.bool_inv];exact .bool _
  |str s=>rw[hv.str_inv];exact .str _
  |nilsl=>rw[hv.nilsl_inv];exact .nilsl
  |val x=>rw[hv.val_inv];exact .val _
  |sl d enc l=>exact hv.sl_inv
  |slc d enc l=>exact hv.slc_inv
  |pd c=>exact hv.pd_inv
theorem kP {n:Nat} {us:List AV} {vs:List Value} (h:us.all (b9 n)=true) (hv:ba S ρ vs us):lr S vs us:=
 ⟨hv.1,fun i u hu=>let ⟨v,e,hr⟩:=hv.2 i u hu;⟨v,e,ke n (List.all_eq_true.1 h u (List.mem_of_getElem? hu)) hr⟩⟩
noncomputable def dB (F:ae) (ρ:aw) (M:ah) (w:World) (own:Nat->Prop):ae:=fun k=>
 open Classical in if(∃ℓ B b,M ℓ=some B/\ρ ℓ=some b/\B.live b/\b.blk=k/\¬own ℓ) then w.heap[k]? else F k
theorem jn {own:Nat->Prop} {ℓ:Nat} {B:bj} {b:dZ} (h1:M ℓ=some B) (h2:ρ ℓ=some b) (h3:B.live b) (h4:¬own ℓ):dB F ρ M w own b.blk=w.heap[b.blk]?:=by
 unfold dB;rw[if_pos ⟨ℓ,B,b,h1,h2,h3,rfl,h4⟩]
theorem iP {own:Nat->Prop} (hM:az S F ρ M w):ae.le F (dB F ρ M w own):=by
 intro k o hk
 unfold dB
 split
 ·exact hM.fw k o hk
 ·exact hk
theorem kQ {own:Nat->Prop} (hM:az S F ρ M w):(dB F ρ M w own).inW w:=by
 intro k o hk
 unfold dB at hk
 split at hk
 ·exact hk
 ·exact hM.fw k o hk
theorem l6 {own:Nat->Prop} (hM:az S F ρ M w) (k:Nat):S k=none\/dB F ρ M w own k=none:=by
 unfold dB
 split
 ·rename_i h
  obtain⟨ℓ,B,b,h1,h2,h3,rfl,_⟩:=h
  obtain⟨b',hb',hr⟩:=hM.blk _ _ h1
  rw[h2] at hb';cases hb'
  exact .inl (hr.off h3).1
 ·exact hM.sf k
theorem az.behind {S':ae} {w':World} (hM:az S F ρ M w) (hle:S.le S') (hs:S'.inW w') (hf:(dB F ρ M w (fun _=>False)).inW w') (hd:∀b,S' b=none\/dB F ρ M w (fun _=>False) b=none):az S' F ρ M w':=by
 refine⟨hs,fun k o hk=>hf k o (iP hM k o hk),fun k=>?_,hM.dom,fun ℓ B hB=>?_,hM.inj,hM.gl.mono hle⟩
 ·rcases hd k with h|h
  ·exact .inl h
  ·right
   cases hk:F k with
   |none=>rfl
   |some o=>rw[iP hM k o hk] at h;cases h
 ·obtain⟨b,hb,hr⟩:=hM.blk _ _ hB
  refine⟨b,hb,hr.keep hle (aw.le_refl _) fun hl=>?_⟩
  have hk:=jn (F:=F) (w:=w) (own:=fun _=>False) hB hb hl (fun h=>h)
  have hlt:=hr.lt hl
  obtain⟨o,ho⟩:∃o,w.heap[b.blk]? =some o:=⟨_,Array.getElem?_eq_getElem hlt⟩
  refine⟨by rw[hf b.blk o (hk.trans ho),ho],?_⟩
  rw[(hr.off hl).1]
  rcases hd b.blk with h|h
  ·exact h
  ·rw[hk,ho] at h;cases h
theorem ar.of_pure {f:FuncId} {args:List AV} {R:AV->Prop} {K:AV->ah->Prop} {n:Nat} (h:aa P f args R) (hp:args.all (b9 n)=true) (hk:∀u,R u->K u M):ar P f args M K:=by
 rw[bP]
 rw[fG] at h
 refine⟨h.1,?_⟩
 intro S F ρ vs w hM hv
 refine(h.2 S (dB F ρ M w (fun _=>False)) vs w hM.gl hM.sw (kQ hM) (l6 hM) (kP hp hv)).mono ?_
 rintro e w' ⟨v,u,S',rfl,hR,hle,hs,hf,hd,hr,hw⟩
 exact⟨v,u,M,S',ρ,rfl,hk u hR,hle,aw.le_refl _,hM.behind hle hs hf hd, .p hr,hw⟩
theorem ar.mono {f:FuncId} {args:List AV} {R R':AV->ah->Prop} (h:ar P f args M R) (hr:∀u M,R u M->R' u M):ar P f args M R':=by
 simp only[bP] at*
 refine⟨h.1,?_⟩
 intro S F ρ vs w hM hv
 exact(h.2 S F ρ vs w hM hv).mono fun e w' ⟨v,u,M',S',ρ',a,b,c⟩=>⟨v,u,M',S',ρ',a,hr _ _ b,c⟩
theorem aa.mono {f:FuncId} {args:List AV} {R R':AV->Prop} (h:aa P f args R) (hr:∀u,R u->R' u):aa P f args R':=by
 simp only[fG] at*
 refine⟨h.1,?_⟩
 intro S F vs w h0 h1 h2 h3 hv
 exact(h.2 S F vs w h0 h1 h2 h3 hv).mono fun e w' ⟨v,u,S',a,b,c⟩=>⟨v,u,S',a,hr _ b,c⟩
theorem ar.weaken {f:FuncId} {args args':List AV} {R:AV->ah->Prop} (h:ar P f args' M R)
  (hw:∀S F ρ vs w,az S F ρ M w->ba S ρ vs args->ba S ρ vs args'):ar P f args M R:=by
 simp only[bP] at*
 refine⟨h.1,?_⟩
 intro S F ρ vs w hM hv
 exact h.2 S F ρ vs w hM (hw S F ρ vs w hM hv)
theorem ar.leak {f:FuncId} {args:List AV} {R:AV->ah->Prop} {ℓ:Nat} {t:TypeId} {α:Type} {d:α} {enc:α->List AV} {l:List α} (hl:M ℓ=some (.row t d enc l))
  (h:ar P f args (M.set ℓ (.gone d enc l)) R):ar P f args M R:=by
 simp only[bP] at*
 refine⟨h.1,?_⟩
 intro S F ρ vs w hM hv
 obtain⟨S',b,hle,hb,hM',_⟩:=hM.leak hl
 refine(h.2 S' F ρ vs w hM' (hv.mono hle (aw.le_refl _))).mono ?_
 rintro e w' ⟨v,u,M',S'',ρ',a,b,c,r⟩
 exact⟨v,u,M',S'',ρ',a,b,ae.le_trans hle c,r⟩
end
end
section
inductive LM
 |old (ℓ:Nat)
 |nil (sz:Nat)
abbrev c9:=List (Nat×LM)
def aQ:c9->Nat->Option LM
 |[],_=>none
 |(k,x)::r,ℓ=>match Nat.beq k ℓ with|true=>some x|false=>aQ r ℓ
def ah.ofL:List (Nat×bj)->ah
 |[],_=>Option.none
 |(k,B)::r,ℓ=>match Nat.beq k ℓ with|true=>some B|false=>ah.ofL r ℓ
mutual
def kR (lm:c9):Nat->AV->AV->Prop
 |0,_,_=>False
 |n+1,u,v=>match v with
  | .top=>True
  | .ptr ℓ' o'=>match u with
   | .ptr ℓ o=>match aQ lm ℓ' with
    |some (.old m)=>match Nat.beq m ℓ with|true=>o=o'|false=>False
    |_=>False
   |_=>False
  | .row ℓ' n' sz'=>match u with
   | .row ℓ n sz=>match aQ lm ℓ' with
    |some (.old m)=>match Nat.beq m ℓ,Nat.beq sz sz' with
     |true,true=>n=n'
     |_,_=>False
    |_=>False
   | .nilsl=>match aQ lm ℓ' with
    |some (.nil sz)=>match Nat.beq sz sz' with
     |true=>0=n'
     |false=>False
    |_=>False
   |_=>False
  | .rel ℓ' i' o'=>match u with
   | .rel ℓ i o=>match aQ lm ℓ' with
    |some (.old m)=>match Nat.beq m ℓ with|true=>i=i'/\o=o'|false=>False
    |_=>False
   |_=>False
  | .part ℓ' lo' n' sz'=>match u with
   | .part ℓ lo n sz=>match aQ lm ℓ' with
    |some (.old m)=>match Nat.beq m ℓ with|true=>lo=lo'/\n=n'/\sz=sz'|false=>False
    |_=>False
   | .row ℓ n sz=>match aQ lm ℓ' with
    |some (.old m)=>match Nat.beq m ℓ with|true=>0=lo'/\n=n'/\sz=sz'|false=>False
    |_=>False
   |_=>False
  | .mp ℓ'=>match u with
   | .mp ℓ=>match aQ lm ℓ' with
    |some (.old m)=>match Nat.beq m ℓ with|true=>True|false=>False
    |_=>False
   |_=>False
  | .fn f' cs'=>match u with
   | .fn f cs=>match Nat.beq f f' with|true=>g8 lm n cs cs'|false=>False
   |_=>False
  | .agg cs'=>match u with
   | .agg cs=>g8 lm n cs cs'
   |_=>False
  | .tup cs'=>match u with
   | .tup cs=>g8 lm n cs cs'
   |_=>False
  | .int k' m'=>match u with
   | .int k m=>match Nat.beq (kn k) (kn k') with|true=>m=m'|false=>False
   |_=>False
  | .bool b'=>match u with
   | .bool b=>b=b'
   |_=>False
  | .sl d enc l=>match u with
   | .nilsl=>l=[]
   |u=>u= .sl d enc l
  |v=>u=v
def g8 (lm:c9):Nat->List AV->List AV->Prop
 |0,_,_=>False
 |n+1,us,vs=>match us,vs with
  |[],[]=>True
  |u::us,v::vs=>match v with
   | .top=>g8 lm n us vs
   |v=>kR lm n u v/\g8 lm n us vs
  |_,_=>False
end
def jR (lm:c9) (n:Nat):Option bj->bj->Prop
 |some _, .dead=>True
 |none, .dead=>False
 |some (.box t cs), .box t' cs'=>match Nat.beq t t' with|true=>g8 lm n cs cs'|false=>False
 |some (.row t d enc l), .row t' d' enc' l'=>bj.row t d enc l=bj.row t' d' enc' l'
 |some (.gone d enc l), .gone d' enc' l'=>bj.gone d enc l=bj.gone d' enc' l'
 |some (.iter s p), .iter s' p'=>s=s'/\p=p'
 |some (.map ek ev l), .map ek' ev' l'=>bj.map ek ev l=bj.map ek' ev' l'
 |some (.obj o), .obj o'=>o=o'
 |_,_=>False
def dS (lm:c9) (n:Nat) (M:ah):List (Nat×bj)->Prop
 |[]=>True
 |(ℓ',B')::r=>(match aQ lm ℓ' with
  |some (.old ℓ)=>jR lm n (M ℓ) B'
  |some (.nil _)=>match B' with
   | .row _ _ _ l=>l=[]
   |_=>False
  |none=>False)/\dS lm n M r
def iQ (lm:c9) (L:List (Nat×bj)):Bool:=lm.all fun p=>(ah.ofL L p.1).isSome
def l7:c9->Bool
 |[]=>true
 |(_, .old ℓ)::r=>r.all (fun p=>match p.2 with| .old m=>!(Nat.beq m ℓ)| .nil _=>true)&&l7 r
 |(_, .nil _)::r=>l7 r
def jo (L:List (Nat×bj)) (k:Nat):Bool:=match ah.ofL L k with
 |some .dead=>false
 |_=>true
def iR (L:List (Nat×bj)) (lm:c9):Bool:=l7 (lm.filter fun p=>jo L p.1)
def ri (lm:c9) (D:List Nat):Bool:=D.all fun d=>match aQ lm d with|some (.old m)=>Nat.beq m d|_=>false
def xn:c9->Bool
 |[]=>true
 |(k,_)::r=>r.all (fun p=>!(Nat.beq p.1 k))&&xn r
def bG (lm:c9) (ρ:aw):aw:=fun ℓ'=>match aQ lm ℓ' with
 |some (.old ℓ)=>ρ ℓ
 |some (.nil sz)=>some ⟨0,0,0,sz,true⟩
 |none=>none
section
variable {S F:ae} {ρ:aw} {M:ah} {w:World} {lm:c9}
theorem jp:∀(n:Nat),(∀(u v:AV) (x:Value),kR lm n u v->RV S ρ x u->RV S (bG lm ρ) x v)/\(∀(us vs:List AV) (xs:List Value),g8 lm n us vs->ba S ρ xs us->ba S (bG lm ρ) xs vs):=by
 intro n
 induction n with
 |zero=>exact⟨fun u v x h=>by simp[kR] at h,fun us vs xs h=>by simp[g8] at h⟩
 |succ n ih=>
  refine⟨fun u v x h hx=>?_,fun us vs xs h hx=>?_⟩
  ·have pers:∀{v:AV},u=v->(∀{y},RV S ρ y v->RP S y v)->RV S (bG lm ρ) x v:=fun e hp=>by subst e;exact .p (hp hx)
   cases v with
   |top=>exact .p (.top _)
   |ptr ℓ' o'=>
    simp only[kR] at h
    split at h
    ·split at h
     ·rename_i ℓ o m hm
      split at h
      ·rename_i hb
       have:=Nat.eq_of_beq_eq_true hb
       subst this;subst h
       obtain⟨b,hb,rfl⟩:=hx.ptr_inv
       exact .ptr _ _ b (by unfold bG;rw[hm];exact hb)
      ·exact h.elim
     ·exact h.elim
    ·exact h.elim
   |row ℓ' n' sz'=>
    simp only[kR] at h
    split at h
    ·split at h
     ·rename_i ℓ k sz m hm
      split at h
      ·rename_i hb hs
       have:=Nat.eq_of_beq_eq_true hb
       subst this
       have:=Nat.eq_of_beq_eq_true hs
       subst this;subst h
       obtain⟨b,hb,h1,h2,h3,rfl⟩:=hx.row_inv
       exact .row _ _ _ b (by unfold bG;rw[hm];exact hb) h1 h2 h3
      ·exact h.elim
     ·exact h.elim
    ·split at h
     ·rename_i sz hm
      split at h
      ·rename_i hs
       have:=Nat.eq_of_beq_eq_true hs
       subst this;subst h
       rw[hx.nilsl_inv]
       have:=RV.row (S:=S) (ρ:=bG lm ρ) ℓ' 0 sz ⟨0,0,0,sz,true⟩ (by unfold bG;rw[hm]) rfl rfl (fun _=>rfl)
       exact this
      ·exact h.elim
     ·exact h.elim
    ·exact h.elim
   |rel ℓ' i' o'=>
    simp only[kR] at h
    split at h
    ·split at h
     ·rename_i ℓ i o m hm
      split at h
      ·rename_i hb
       have:=Nat.eq_of_beq_eq_true hb
       subst this
       obtain⟨rfl,rfl⟩:=h
       obtain⟨b,hb,h1,rfl⟩:=hx.rel_inv
       exact .rel _ _ _ b (by unfold bG;rw[hm];exact hb) h1
      ·exact h.elim
     ·exact h.elim
    ·exact h.elim
   |part ℓ' lo' n' sz'=>
    simp only[kR] at h
    split at h
    ·split at h
     ·rename_i ℓ lo n sz m hm
      split at h
      ·rename_i hb
       have:=Nat.eq_of_beq_eq_true hb
       subst this
       obtain⟨rfl,rfl,rfl⟩:=h
       obtain⟨b,a,c,hb,h1,h2,h3,h4,rfl⟩:=hx.part_inv
       exact .part _ _ _ _ b a c (by unfold bG;rw[hm];exact hb) h1 h2 h3 h4
      ·exact h.elim
     ·exact h.elim
    ·split at h
     ·rename_i ℓ n sz m hm
      split at h
      ·rename_i hb
       have:=Nat.eq_of_beq_eq_true hb
       subst this
       obtain⟨rfl,rfl,rfl⟩:=h
       obtain⟨b,hb,rfl,h2,h3,rfl⟩:=hx.row_inv
       have hn:0<b.len->b.nil=false:=fun hp=>by
        cases hh:b.nil with
        |false=>rfl
        |true=>have:=h3 hh;omega
       exact .part _ _ _ _ b _ _ (by unfold bG;rw[hm];exact hb) h2 (by omega) (fun hp=>⟨hn hp,by rw[hn hp,Nat.zero_mul];rfl⟩) (fun _=>Nat.zero_add _)
      ·exact h.elim
     ·exact h.elim
    ·exact h.elim
   |mp ℓ'=>
    simp only[kR] at h
    split at h
    ·split at h
     ·rename_i ℓ m hm
      split at h
      ·rename_i hb
       have:=Nat.eq_of_beq_eq_true hb
       subst this
       obtain⟨b,hb,rfl⟩:=hx.mp_inv
       exact .mp _ b (by unfold bG;rw[hm];exact hb)
      ·exact h.elim
     ·exact h.elim
    ·exact h.elim
   |fn f' cs'=>
    simp only[kR] at h
    split at h
    ·rename_i f cs
     split at h
     ·rename_i hf
      have:=Nat.eq_of_beq_eq_true hf
      subst this
      obtain⟨vs,rfl,hv⟩:=hx.fn_inv
      have:=RV.fn_mk f (ih.2 cs cs' vs.toList h hv)
      simpa using this
     ·exact h.elim
    ·exact h.elim
   |agg cs'=>
    simp only[kR] at h
    split at h
    ·rename_i cs
     obtain⟨vs,rfl,hv⟩:=hx.agg_inv
     have:=RV.agg_mk (ih.2 cs cs' vs.toList h hv)
     simpa using this
    ·exact h.elim
   |tup cs'=>
    simp only[kR] at h
    split at h
    ·rename_i cs
     obtain⟨vs,rfl,hv⟩:=hx.tup_inv
     have:=RV.tup_mk (ih.2 cs cs' vs.toList h hv)
     simpa using this
    ·exact h.elim
   |int k' m'=>
    simp only[kR] at h
    split at h
    ·split at h
     ·rename_i hk
      have:=Ad hk
      subst this;subst h
      rw[hx.int_inv]
      exact .p (.int _ _)
     ·exact h.elim
    ·exact h.elim
   |bool b'=>
    simp only[kR] at h
    split at h
    ·subst h
     rw[hx.bool_inv]
     exact .p (.bool _)
    ·exact h.elim
   |sl d enc l=>
    simp only[kR] at h
    split at h
    ·subst h
     rw[hx.nilsl_inv]
     exact .p (.sl d enc [] none 0 0 (fun _ _=>undef) (by simp) (by simp) (by simp) (by simp) (by simp) (by simp))
    ·exact pers h fun hy=>hy.sl_inv
   |str s=>simp only[kR] at h;exact pers h fun hy=>by rw[hy.str_inv];exact .str _
   |nilsl=>simp only[kR] at h;exact pers h fun hy=>by rw[hy.nilsl_inv];exact .nilsl
   |val y=>simp only[kR] at h;exact pers h fun hy=>by rw[hy.val_inv];exact .val _
   |slc d enc l=>simp only[kR] at h;exact pers h fun hy=>hy.slc_inv
   |pd c=>simp only[kR] at h;exact pers h fun hy=>hy.pd_inv
  ·simp only[g8] at h
   split at h
   ·rw[hx.nil_inv];exact ba.nil _ _
   ·rename_i u us v vs
    obtain⟨y,ys,rfl,hy,hys⟩:=hx.cons_inv
    split at h
    ·exact ba.cons (.p (.top _)) (ih.2 us vs ys h hys)
    ·exact ba.cons (ih.1 u v y h.1 hy) (ih.2 us vs ys h.2 hys)
   ·exact h.elim
theorem gn:∀{L:List (Nat×bj)} {ℓ:Nat} {B:bj},ah.ofL L ℓ=some B->(ℓ,B)∈L
 |[],_,_,h=>by simp[ah.ofL] at h
 |(k,C)::r,ℓ,B,h=>by
  simp only[ah.ofL] at h
  split at h
  ·rename_i hk
   have:=Nat.eq_of_beq_eq_true hk
   subst this
   cases h;exact List.mem_cons_self
  ·exact List.mem_cons_of_mem _ (gn h)
theorem l8 {n:Nat}:∀{L:List (Nat×bj)},dS lm n M L->∀ℓ' B',(ℓ',B')∈L->(match aQ lm ℓ' with
  |some (.old ℓ)=>jR lm n (M ℓ) B'
  |some (.nil _)=>match B' with
   | .row _ _ _ l=>l=[]
   |_=>False
  |none=>False)
 |[],_,_,_,h=>by cases h
 |(k,C)::r,h,ℓ',B',hm=>by
  rcases List.mem_cons.1 hm with e|hm
  ·injection e with e1 e2;subst e1;subst e2;exact h.1
  ·exact l8 h.2 ℓ' B' hm
theorem eR:∀{lm:c9} {ℓ:Nat} {x:LM},aQ lm ℓ=some x->(ℓ,x)∈lm
 |[],_,_,h=>by simp[aQ] at h
 |(k,y)::r,ℓ,x,h=>by
  simp only[aQ] at h
  split at h
  ·rename_i hk
   have:=Nat.eq_of_beq_eq_true hk
   subst this
   cases h;exact List.mem_cons_self
  ·exact List.mem_cons_of_mem _ (eR h)
theorem ua:∀{lm:c9},l7 lm=true->∀{a b ℓ:Nat},aQ lm a=some (.old ℓ)->aQ lm b=some (.old ℓ)->a=b
 |[],_,_,_,_,h,_=>by simp[aQ] at h
 |(k,x)::r,ho,a,b,ℓ,ha,hb=>by
  have hr:l7 r=true:=by
   cases x with
   |old m=>simp only[l7,Bool.and_eq_true] at ho;exact ho.2
   |nil _=>simpa only[l7] using ho
  have far:∀{c:Nat},x= .old ℓ->aQ r c=some (.old ℓ)->False:=by
   intro c hx hc
   subst hx
   simp only[l7,Bool.and_eq_true] at ho
   have:=List.all_eq_true.1 ho.1 _ (eR hc)
   simp at this
  simp only[aQ] at ha hb
  split at ha
  ·rename_i hka
   split at hb
   ·rename_i hkb
    rw[<-Nat.eq_of_beq_eq_true hka,<-Nat.eq_of_beq_eq_true hkb]
   ·cases ha;exact(far rfl hb).elim
  ·split at hb
   ·cases hb;exact(far rfl ha).elim
   ·exact ua hr ha hb
theorem iA {L:List (Nat×bj)} {a:Nat} (ha:jo L a=true):∀{lm:c9} {x:LM},aQ lm a=some x->aQ (lm.filter fun p=>jo L p.1) a=some x
 |[],_,h=>by simp[aQ] at h
 |(k,y)::r,x,h=>by
  simp only[aQ] at h
  split at h
  ·rename_i hk
   have:=Nat.eq_of_beq_eq_true hk
   subst this
   cases h
   rw[List.filter_cons_of_pos (by exact ha)]
   simp[aQ]
  ·rename_i hk
   have ih:=iA ha h
   by_cases hp:jo L k=true
   ·rw[List.filter_cons_of_pos (by exact hp)]
    simp only[aQ,hk]
    exact ih
   ·rw[List.filter_cons_of_neg (by exact hp)]
    exact ih
theorem l9 {L:List (Nat×bj)} {k:Nat} {B:bj} {b:dZ} (h:ah.ofL L k=some B) (hl:B.live b):jo L k=true:=by
 unfold jo
 rw[h]
 cases B<;>first|rfl|exact hl.elim
theorem az.relabel (hM:az S F ρ M w) {L:List (Nat×bj)} {n:Nat} (hm:dS lm n M L) (hk:iQ lm L=true) (ho:iR L lm=true):az S F (bG lm ρ) (ah.ofL L) w:=by
 have live:∀ℓ' B',ah.ofL L ℓ'=some B'->∀b,bG lm ρ ℓ'=some b->B'.live b->∃ℓ B,aQ lm ℓ'=some (.old ℓ)/\M ℓ=some B/\ρ ℓ=some b/\B.live b:=by
  intro ℓ' B' hB' b hb hl
  have h:=l8 hm ℓ' B' (gn hB')
  unfold bG at hb
  split at h
  ·rename_i ℓ hf
   rw[hf] at hb
   simp only at hb
   unfold jR at h
   split at h
   ·exact hl.elim
   ·exact h.elim
   ·rename_i t cs t' cs' hML
    exact⟨ℓ,_,hf,hML,hb,trivial⟩
   ·rename_i t α d enc l t' α' d' enc' l' hML
    refine⟨ℓ,_,hf,hML,hb,?_⟩
    rw[h];exact hl
   ·exact hl.elim
   ·rename_i s p s' p' hML
    exact⟨ℓ,_,hf,hML,hb,trivial⟩
   ·rename_i hML
    exact⟨ℓ,_,hf,hML,hb,trivial⟩
   ·rename_i hML
    exact⟨ℓ,_,hf,hML,hb,trivial⟩
   ·exact h.elim
  ·rename_i sz hf
   rw[hf] at hb
   simp only[Option.some.injEq] at hb
   subst hb
   split at h
   ·simp[bj.live] at hl
   ·exact h.elim
  ·exact h.elim
 refine⟨hM.sw,hM.fw,hM.sf,fun ℓ' b hb=>?_,fun ℓ' B' hB'=>?_,fun x y B C b c h1 h2 h3 h4 h5 h6 hne=>?_,hM.gl⟩
 ·cases hf:aQ lm ℓ' with
  |none=>unfold bG at hb;rw[hf] at hb;cases hb
  |some x=>
   have:=List.all_eq_true.1 hk _ (eR hf)
   intro h
   simp only at this
   rw[h] at this;cases this
 ·have h:=l8 hm ℓ' B' (gn hB')
  split at h
  ·rename_i ℓ hf
   have he:bG lm ρ ℓ'=ρ ℓ:=by unfold bG;rw[hf]
   unfold jR at h
   split at h
   ·rename_i hML
    obtain⟨b,hb,hr⟩:=hM.blk _ _ hML
    exact⟨b,he.trans hb,trivial⟩
   ·exact h.elim
   ·rename_i t cs t' cs' hML
    split at h
    ·rename_i ht
     have:=Nat.eq_of_beq_eq_true ht
     subst this
     obtain⟨b,hb,vs,h1,h2,h3⟩:=hM.blk _ _ hML
     exact⟨b,he.trans hb,vs,h1,(jp n).2 cs cs' _ h h2,h3⟩
    ·exact h.elim
   ·rename_i t α d enc l t' α' d' enc' l' hML
    obtain⟨b,hb,hr⟩:=hM.blk _ _ hML
    rw[h] at hr
    exact⟨b,he.trans hb,hr⟩
   ·rename_i α d enc l α' d' enc' l' hML
    obtain⟨b,hb,hr⟩:=hM.blk _ _ hML
    rw[h] at hr
    exact⟨b,he.trans hb,hr⟩
   ·rename_i s p s' p' hML
    obtain⟨rfl,rfl⟩:=h
    obtain⟨b,hb,hr⟩:=hM.blk _ _ hML
    exact⟨b,he.trans hb,hr⟩
   ·rename_i hML
    obtain⟨b,hb,hr⟩:=hM.blk _ _ hML
    rw[h] at hr
    exact⟨b,he.trans hb,hr⟩
   ·rename_i hML
    obtain⟨b,hb,hr⟩:=hM.blk _ _ hML
    rw[h] at hr
    exact⟨b,he.trans hb,hr⟩
   ·exact h.elim
  ·rename_i sz hf
   split at h
   ·subst h
    exact⟨⟨0,0,0,sz,true⟩,by unfold bG;rw[hf],rfl,by simp, .inl ⟨rfl,rfl,rfl⟩⟩
   ·exact h.elim
  ·exact h.elim
 ·obtain⟨ℓ,B0,f1,m1,r1,l1⟩:=live x B h1 b h3 h5
  obtain⟨ℓ2,C0,f2,m2,r2,l2⟩:=live y C h2 c h4 h6
  refine hM.inj ℓ ℓ2 B0 C0 b c m1 m2 r1 r2 l1 l2 fun e=>?_
  subst e
  exact hne (ua ho (iA (l9 h1 h5) f1) (iA (l9 h2 h6) f2))
end
def fZ (L:List (Nat×bj)) (M:ah):ah:=fun ℓ=>match ah.ofL L ℓ with
 |some B=>some B
 |none=>M ℓ
def ub (lm lb:c9):Bool:=lm.all fun p=>match p.2 with
 | .old ℓ=>(match aQ lb ℓ with|some (.old m)=>Nat.beq m p.1|_=>false)
 | .nil _=>true
def m7 (lm lb:c9) (M:ah):Bool:=lb.all fun p=>(lm.any fun q=>match q.2 with| .old ℓ=>Nat.beq ℓ p.1| .nil _=>false)||(M p.1).isNone
section
variable {S F F2:ae} {ρ:aw} {M:ah} {w:World} {P:Program}
theorem dM.reF {b:dZ} {B:bj} (h:dM S F ρ w b B) (hf:B.live b->F2 b.blk=none):dM S F2 ρ w b B:=by
 cases B with
 |box t cells=>obtain⟨vs,h1,h2,h3,h4⟩:=h;exact⟨vs,h1,h2,h3,hf trivial⟩
 |row t d enc l=>
  obtain⟨h1,h2,h3⟩:=h
  exact⟨h1,h2,h3.imp id fun⟨hn,hc,vs,h4,h5,h6,h7,h8⟩=>⟨hn,hc,vs,h4,h5,h6,h7,hf hn⟩⟩
 |gone d enc l=>exact h
 |iter s pos=>exact⟨h.1,h.2.1,hf trivial⟩
 |map ek ev l=>obtain⟨es,ck,h1,h2,h3,h4⟩:=h;exact⟨es,ck,h1,h2,h3,hf trivial⟩
 |obj o=>exact⟨h.1,h.2.1,hf trivial⟩
 |hdr t g m=>
  obtain⟨l,hlm,hg,h1,h2,h3⟩:=h
  exact⟨l,hlm,hg,h1,h2,h3.imp id fun⟨hn,hc,vs,h4,h5,h6,h7,h8⟩=>⟨hn,hc,vs,h4,h5,h6,h7,hf hn⟩⟩
 |dead=>trivial
theorem az.reF (hM:az S F ρ M w) (h1:F2.inW w) (h2:∀k,S k=none\/F2 k=none) (h3:∀ℓ B b,M ℓ=some B->ρ ℓ=some b->B.live b->F2 b.blk=none):az S F2 ρ M w:=
 ⟨hM.sw,h1,h2,hM.dom,fun ℓ B hB=>let ⟨b,hb,hr⟩:=hM.blk ℓ B hB;⟨b,hb,hr.reF (h3 ℓ B b hB hb)⟩,hM.inj,hM.gl⟩
theorem lj:∀{lm:c9},xn lm=true->∀{ℓ:Nat} {x:LM},(ℓ,x)∈lm->aQ lm ℓ=some x
 |[],_,_,_,h=>by cases h
 |(k,y)::r,hd,ℓ,x,h=>by
  simp only[xn,Bool.and_eq_true] at hd
  simp only[aQ]
  rcases List.mem_cons.1 h with e|h
  ·injection e with e1 e2;subst e1;subst e2;simp
  ·have:=List.all_eq_true.1 hd.1 _ h
   simp only[Bool.not_eq_true'] at this
   have hne:Nat.beq k ℓ=false:=by
    cases hb:Nat.beq k ℓ
    ·rfl
    ·have:=Nat.eq_of_beq_eq_true hb;subst this;simp at*
   rw[hne]
   exact lj hd.2 h
theorem ar.call {f:FuncId} {args args':List AV} {K R:AV->ah->Prop} (lm:c9) (L:List (Nat×bj)) (n:Nat) (hs:(iQ lm L&&iR L lm&&xn lm)=true) (hm:dS lm n M L) (ha:g8 lm n args args')
  (h:ar P f args' (ah.ofL L) R)
  (hk:∀u M',R u M'->∃(lb:c9) (L2:List (Nat×bj)) (u':AV),(iQ lb L2&&iR L2 lb&&ub lm lb&&m7 lm lb M)=true/\dS lb n M' L2/\kR lb n u u'/\K u' (fZ L2 M)):ar P f args M K:=by
 rw[bP] at h⊢
 refine⟨h.1,fun S F ρ vs w hM hv=>?_⟩
 simp only[Bool.and_eq_true] at hs
 obtain⟨⟨hs1,hs2⟩,hs3⟩:=hs
 let own:Nat->Prop:=fun ℓ=>∃ℓ',aQ lm ℓ'=some (.old ℓ)
 have hMr:=hM.relabel hm hs1 hs2
 have hlive:∀ℓ' B' b,ah.ofL L ℓ'=some B'->bG lm ρ ℓ'=some b->B'.live b->dB F ρ M w own b.blk=none:=by
  intro ℓ' B' b hB' hb hl
  obtain⟨b',hb',hr'⟩:=hMr.blk _ _ hB'
  rw[hb] at hb';cases hb'
  have hFb:=(hr'.off hl).2
  have hh:=l8 hm ℓ' B' (gn hB')
  unfold bG at hb
  cases hf:aQ lm ℓ' with
  |none=>rw[hf] at hb;cases hb
  |some x=>
   rw[hf] at hb hh
   cases x with
   |nil sz=>
    simp only[Option.some.injEq] at hb
    subst hb
    simp only at hh
    split at hh
    ·simp[bj.live] at hl
    ·exact hh.elim
   |old ℓ=>
    simp only at hb hh
    have hB:∃B,M ℓ=some B/\B.live b:=by
     unfold jR at hh
     split at hh
     ·exact hl.elim
     ·exact hh.elim
     ·rename_i hML;exact⟨_,hML,trivial⟩
     ·rename_i hML;exact⟨_,hML,by rw[hh];exact hl⟩
     ·exact hl.elim
     ·rename_i hML;exact⟨_,hML,trivial⟩
     ·rename_i hML;exact⟨_,hML,trivial⟩
     ·rename_i hML;exact⟨_,hML,trivial⟩
     ·exact hh.elim
    obtain⟨B,hML,hBl⟩:=hB
    unfold dB
    rw[if_neg]
    ·exact hFb
    ·rintro⟨y,C,c,h1,h2,h3,h4,h5⟩
     refine hM.inj y ℓ C B c b h1 hML h2 hb h3 hBl (fun e=>?_) h4
     subst e
     exact h5 ⟨ℓ',hf⟩
 have hMc:=hMr.reF (kQ (own:=own) hM) (l6 hM) hlive
 refine(h.2 S (dB F ρ M w own) (bG lm ρ) vs w hMc ((jp n).2 args args' vs ha hv)).mono ?_
 rintro e w' ⟨v,u,M',S',ρ',rfl,hR,hle,hρ,hM',hr,hw⟩
 obtain⟨lb,L2,u',hb,hm2,hau,hK⟩:=hk u M' hR
 simp only[Bool.and_eq_true] at hb
 obtain⟨⟨⟨hb1,hb2⟩,hb3⟩,hb4⟩:=hb
 have hM2:=hM'.relabel hm2 hb1 hb2
 let ρ2:aw:=fun ℓ=>match bG lb ρ' ℓ with
  |some b=>some b
  |none=>ρ ℓ
 have hle1:aw.le (bG lb ρ') ρ2:=fun ℓ b hb=>by show(match bG lb ρ' ℓ with|some b=>some b|none=>ρ ℓ)=_;rw[hb]
 have hback:∀ℓ ℓ',aQ lm ℓ'=some (.old ℓ)->aQ lb ℓ=some (.old ℓ'):=by
  intro ℓ ℓ' hf
  have:=List.all_eq_true.1 hb3 _ (eR hf)
  simp only at this
  split at this
  ·rename_i m hm'
   rw[hm',Nat.eq_of_beq_eq_true this]
  ·cases this
 have hle2:aw.le ρ ρ2:=by
  intro ℓ b hb
  show(match bG lb ρ' ℓ with|some b=>some b|none=>ρ ℓ)=_
  cases hf:aQ lb ℓ with
  |none=>
   have:bG lb ρ' ℓ=none:=by unfold bG;rw[hf]
   rw[this];exact hb
  |some x=>
   have:=List.all_eq_true.1 hb4 _ (eR hf)
   simp only[Bool.or_eq_true] at this
   rcases this with h1|h1
   ·obtain⟨q,hq,hq2⟩:=List.any_eq_true.1 h1
    obtain⟨k,y⟩:=q
    cases y with
    |nil _=>cases hq2
    |old m=>
     simp only at hq2
     have:=Nat.eq_of_beq_eq_true hq2
     subst this
     have hfl:=lj hs3 hq
     have hbk:=hback _ _ hfl
     have he:bG lm ρ k=some b:=by unfold bG;rw[hfl];exact hb
     have h2:bG lb ρ' m=some b:=by unfold bG;rw[hbk];exact hρ _ _ he
     rw[h2]
   ·exfalso
    have hn:M ℓ=none:=by cases hh:M ℓ with
     |none=>rfl
     |some B=>simp[hh] at h1
    exact hM.dom ℓ b hb hn
 have hF:∀k o,F k=some o->dB F ρ M w own k=some o:=iP hM
 have framed:∀ℓ B b,ah.ofL L2 ℓ=none->M ℓ=some B->ρ ℓ=some b->B.live b->dB F ρ M w own b.blk=w.heap[b.blk]?:=by
  intro ℓ B b h0 h1 h2 h3
  refine jn h1 h2 h3 fun⟨ℓ',hf⟩=>?_
  have:=List.all_eq_true.1 hb1 _ (eR (hback _ _ hf))
  simp only at this
  rw[h0] at this;cases this
 refine⟨v,u',fZ L2 M,S',ρ2,rfl,hK,hle,hle2,⟨hM'.sw,fun k o hk=>hM'.fw k o (hF k o hk),fun k=>?_,fun ℓ b hb=>?_,fun ℓ B hB=>?_,fun x y B C b c h1 h2 h3 h4 h5 h6 hne=>?_,hM'.gl⟩,((jp n).1 u u' v hau hr).mono (ae.le_refl _) hle1,hw⟩
 ·rcases hM'.sf k with h1|h1
  ·exact .inl h1
  ·right
   cases hk:F k with
   |none=>rfl
   |some o=>rw[hF k o hk] at h1;cases h1
 ·unfold fZ
  cases h2:ah.ofL L2 ℓ with
  |some B=>simp
  |none=>
   have hb:(match bG lb ρ' ℓ with|some b=>some b|none=>ρ ℓ)=some b:=hb
   cases h3:bG lb ρ' ℓ with
   |some b'=>exact absurd h2 (hM2.dom _ _ h3)
   |none=>rw[h3] at hb;exact hM.dom _ _ hb
 ·unfold fZ at hB
  cases h2:ah.ofL L2 ℓ with
  |some B'=>
   rw[h2] at hB
   cases hB
   obtain⟨b,hb,hr2⟩:=hM2.blk _ _ h2
   refine⟨b,hle1 _ _ hb,(hr2.keep (ae.le_refl _) hle1 fun _=>⟨rfl,rfl⟩).reF fun hl=>?_⟩
   have:=(hr2.off hl).2
   cases hk:F b.blk with
   |none=>rfl
   |some o=>rw[hF _ o hk] at this;cases this
  |none=>
   rw[h2] at hB
   obtain⟨b,hb,hr2⟩:=hM.blk _ _ hB
   refine⟨b,hle2 _ _ hb,hr2.keep hle hle2 fun hl=>?_⟩
   have hk:=framed ℓ B b h2 hB hb hl
   obtain⟨o,ho⟩:∃o,w.heap[b.blk]? =some o:=⟨_,Array.getElem?_eq_getElem (hr2.lt hl)⟩
   refine⟨by rw[hM'.fw _ o (hk.trans ho),ho],?_⟩
   rw[(hr2.off hl).1]
   rcases hM'.sf b.blk with h1|h1
   ·exact h1
   ·rw[hk,ho] at h1;cases h1
 ·have back:∀z D d,fZ L2 M z=some D->ρ2 z=some d->D.live d->(ah.ofL L2 z=some D/\bG lb ρ' z=some d)\/(ah.ofL L2 z=none/\M z=some D/\ρ z=some d):=by
   intro z D d hD hd hl
   unfold fZ at hD
   cases hz:ah.ofL L2 z with
   |some D'=>
    rw[hz] at hD;cases hD
    obtain⟨b',hb',_⟩:=hM2.blk _ _ hz
    have:=hle1 _ _ hb'
    rw[hd] at this;cases this
    exact .inl ⟨rfl,hb'⟩
   |none=>
    rw[hz] at hD
    obtain⟨b',hb',_⟩:=hM.blk _ _ hD
    have:=hle2 _ _ hb'
    rw[hd] at this;cases this
    exact .inr ⟨rfl,hD,hb'⟩
  have mixed:∀z D d z' D' d',ah.ofL L2 z=some D->bG lb ρ' z=some d->D.live d->ah.ofL L2 z'=none->M z'=some D'->ρ z'=some d'->D'.live d'->d.blk≠d'.blk:=by
   intro z D d z' D' d' a1 a2 a3 a4 a5 a6 a7 e
   obtain⟨b',hb',hr2⟩:=hM2.blk _ _ a1
   rw[a2] at hb';cases hb'
   have h1:=(hr2.off a3).2
   have h2:=framed z' D' d' a4 a5 a6 a7
   obtain⟨c',hc',hr3⟩:=hM.blk _ _ a5
   rw[a6] at hc';cases hc'
   rw[e,h2,Array.getElem?_eq_getElem (hr3.lt a7)] at h1
   cases h1
  rcases back x B b h1 h3 h5 with ⟨p1,p2⟩|⟨p0,p1,p2⟩<;>rcases back y C c h2 h4 h6 with ⟨q1,q2⟩|⟨q0,q1,q2⟩
  ·exact hM2.inj x y B C b c p1 q1 p2 q2 h5 h6 hne
  ·exact mixed x B b y C c p1 p2 h5 q0 q1 q2 h6
  ·exact fun e=>mixed y C c x B b q1 q2 h6 p0 p1 p2 h5 e.symm
  ·exact hM.inj x y B C b c p1 q1 p2 q2 h5 h6 hne
def jq (ℓ:Nat) (u:AV):AV->AV
 | .row ℓ' n sz=>match Nat.beq ℓ' ℓ with|true=>u|false=> .row ℓ' n sz
 |v=>v
theorem jr {ℓ:Nat} {α:Type} {d:α} {enc:α->List AV} {l:List α} (hM:az S F ρ M w) (hl:M ℓ=some (.gone d enc l)) {v:Value} {u:AV} (h:RV S ρ v u):RV S ρ v (jq ℓ (.sl d enc l) u):=by
 unfold jq
 split
 ·rename_i ℓ' n sz
  split
  ·rename_i hb
   have:=Nat.eq_of_beq_eq_true hb
   subst this
   obtain⟨b,hb,_,_,_,rfl⟩:=h.row_inv
   obtain⟨b',hb',_,hr⟩:=hM.blk _ _ hl
   rw[hb] at hb';cases hb'
   exact .p hr
  ·exact h
 ·exact h
def AG (ℓ:Nat) (u:AV):AV->AV
 | .agg cs=> .agg (cs.map (jq ℓ u))
 |v=>jq ℓ u v
theorem AH {ℓ:Nat} {α:Type} {d:α} {enc:α->List AV} {l:List α} (hM:az S F ρ M w) (hl:M ℓ=some (.gone d enc l)) {v:Value} {u:AV} (h:RV S ρ v u):RV S ρ v (AG ℓ (.sl d enc l) u):=by
 unfold AG
 split
 ·rename_i cs
  obtain⟨vs,rfl,hr⟩:=h.agg_inv
  have:ba S ρ vs.toList (cs.map (jq ℓ (.sl d enc l))):=⟨by simpa using hr.1,fun i u hu=>by
   rw[List.getElem?_map] at hu
   obtain⟨u0,h0,rfl⟩:=Option.map_eq_some_iff.1 hu
   obtain⟨v,hv,hvr⟩:=hr.2 i u0 h0
   exact⟨v,hv,jr hM hl hvr⟩⟩
  have:=RV.agg_mk this
  simpa using this
 ·exact jr hM hl h
theorem ar.handB {f:FuncId} {args:List AV} {R:AV->ah->Prop} (ℓ:Nat) {t:TypeId} {α:Type} {d:α} {enc:α->List AV} {l:List α} (hl:M ℓ=some (.row t d enc l))
  (h:ar P f (args.map (AG ℓ (.sl d enc l))) (M.set ℓ (.gone d enc l)) R):ar P f args M R:=by
 refine ar.leak hl (ar.weaken h fun S F ρ vs w hM hv=>⟨by simpa using hv.1,fun i u hu=>?_⟩)
 rw[List.getElem?_map] at hu
 obtain⟨u0,h0,rfl⟩:=Option.map_eq_some_iff.1 hu
 obtain⟨v,e,hr⟩:=hv.2 i u0 h0
 exact⟨v,e,AH hM (ah.set_eq _ _ _) hr⟩
theorem ar.hand {f:FuncId} {args:List AV} {R:AV->ah->Prop} (ℓ:Nat) {t:TypeId} {α:Type} {d:α} {enc:α->List AV} {l:List α} (hl:M ℓ=some (.row t d enc l))
  (h:ar P f (args.map (jq ℓ (.sl d enc l))) (M.set ℓ (.gone d enc l)) R):ar P f args M R:=by
 refine ar.leak hl (ar.weaken h fun S F ρ vs w hM hv=>⟨by simpa using hv.1,fun i u hu=>?_⟩)
 rw[List.getElem?_map] at hu
 obtain⟨u0,h0,rfl⟩:=Option.map_eq_some_iff.1 hu
 obtain⟨v,e,hr⟩:=hv.2 i u0 h0
 exact⟨v,e,jr hM (ah.set_eq _ _ _) hr⟩
end
end
section
def sH:List AV->Nat->(AV->Prop)->Prop
 |[],_,k=>k .top
 |v::_,0,k=>k v
 |_::l,n+1,k=>sH l n k
theorem kS:∀(l:List AV) (n:Nat) (k:AV->Prop),sH l n k=k (l.getD n .top)
 |[],_,_=>by simp[sH]
 |_::_,0,_=>by simp[sH]
 |_::l,n+1,k=>by rw[sH,kS l n k];simp
def uc:List AV->Nat->AV->(List AV->Prop)->Prop
 |[],_,_,k=>k []
 |_::l,0,v,k=>k (v::l)
 |x::l,n+1,v,k=>uc l n v fun l'=>k (x::l')
theorem ov:∀(l:List AV) (n:Nat) (v:AV) (k:List AV->Prop),uc l n v k=k (l.set n v)
 |[],_,_,_=>by simp[uc]
 |_::_,0,_,_=>by simp[uc]
 |_::l,n+1,v,k=>by rw[uc,ov l n v];simp
def qI (fr:List AV) (d:Option Tmp) (u:AV) (k:List AV->Prop):Prop:=
 match d with
 |some d=>uc fr d u k
 |none=>k fr
def ca (fr:List AV) (d:Option Tmp) (u:AV):List AV:=
 match d with
 |some d=>fr.set d u
 |none=>fr
theorem bn (fr:List AV) (d:Option Tmp) (u:AV) (k:List AV->Prop):qI fr d u k=k (ca fr d u):=by
 cases d<;>simp[qI,ca,ov]
def wk (v:Value) (k:AV->Prop):Prop:=
 match v with
 | .int i n=>k (.int i n)
 | .bool b=>k (.bool b)
 | .string s=>k (.str s)
 | .slice none 0 0=>k .nilsl
 |v=>k (.val v)
theorem yD (v:Value) (k:AV->Prop):wk v k=k (cP v):=by
 unfold wk cP
 split<;>simp
def Hh (fr:List AV) (x:Operand) (k:AV->Prop):Prop:=
 match x with
 | .tmp t=>sH fr t k
 | .const v=>wk v k
 | .func f=>k (.fn f [])
 | .global g=>k (.val (.pointer (some ⟨g,0,none⟩)))
def cm (fr:List AV):Operand->AV
 | .tmp t=>fr.getD t .top
 | .const v=>cP v
 | .func f=> .fn f []
 | .global g=> .val (.pointer (some ⟨g,0,none⟩))
theorem o8 (fr:List AV) (x:Operand) (k:AV->Prop):Hh fr x k=k (cm fr x):=by
 cases x<;>simp[Hh,cm,kS,yD]
def ud (fr:List AV):List Operand->(List AV->Prop)->Prop
 |[],k=>k []
 |x::xs,k=>Hh fr x fun u=>ud fr xs fun us=>k (u::us)
theorem dE (fr:List AV):∀(xs:List Operand) (k:List AV->Prop),ud fr xs k=k (xs.map (cm fr))
 |[],_=>rfl
 |x::xs,k=>by rw[ud,o8,dE fr xs];rfl
def yE:List AV->List AV->(List AV->Prop)->Prop
 |[],r,k=>k r
 |x::l,r,k=>yE l r fun l'=>k (x::l')
theorem ma:∀(l r:List AV) (k:List AV->Prop),yE l r k=k (l++r)
 |[],_,_=>rfl
 |x::l,r,k=>by rw[yE,ma l r];rfl
structure o9 (P:Program) (f:FuncId) (args:List AV) (K:AV->Prop):Prop where
 out:∃R n,aa P f args R/\args.all (b9 n)=true/\(∃u,R u)/\∀u,R u->K u
theorem d6 {P:Program} {f:FuncId} {args:List AV} {K:AV->Prop}:o9 P f args K↔(∃R n,aa P f args R/\args.all (b9 n)=true/\(∃u,R u)/\∀u,R u->K u):=⟨fun h=>h.out,fun h=>⟨h⟩⟩
theorem sJ {P:Program} {f:FuncId} {args:List AV} {K:AV->Prop} {R:AV->Prop} (n:Nat) (h:aa P f args R) (hp:args.all (b9 n)=true) (he:∃u,R u) (hk:∀u,R u->K u):o9 P f args K:=by
 rw[d6];exact⟨R,n,h,hp,he,hk⟩
inductive aP
 |any
 |rows
 |pers
 |fresh
 |flat
 |own
 |boxes (as:List (Nat×Nat))
structure jM (P:Program) (f:FuncId) (args:List AV) (M:ah) (K:AV->ah->Prop):Prop where
 out:∃(R:AV->ah->Prop) (n:Nat) (lb:c9) (L2:List (Nat×bj)) (u':AV),ar P f args (ah.ofL []) R/\g8 [] n args args/\(iQ lb L2&&iR L2 lb&&ub [] lb&&m7 [] lb M)=true/\L2.all (fun p=>(M p.1).isNone)=true/\
  (∀u M',R u M'->dS lb n M' L2/\kR lb n u u')/\K u' (fZ L2 M)
theorem jM.spec {P:Program} {f:FuncId} {args:List AV} {M:ah} {K:AV->ah->Prop} (h:jM P f args M K):ar P f args M K:=by
 obtain⟨R,n,lb,L2,u',hs,ha,hb,hf,hr,hk⟩:=h.out
 exact ar.call [] [] n rfl trivial ha hs fun u M' hR=>⟨lb,L2,u',hb,(hr u M' hR).1,(hr u M' hR).2,hk⟩
theorem jM.mono {P:Program} {f:FuncId} {args:List AV} {M:ah} {K K':AV->ah->Prop} (h:jM P f args M K) (hk:∀u M',K u M'->K' u M'):jM P f args M K':=by
 obtain⟨R,n,lb,L2,u',hs,ha,hb,hf,hr,hK⟩:=h.out
 exact⟨R,n,lb,L2,u',hs,ha,hb,hf,hr,hk _ _ hK⟩
theorem pa:∀{L:List (Nat×bj)} {p:Nat×bj},p∈L->ah.ofL L p.1≠none
 |[],_,h=>by cases h
 |(k,B)::r,p,h=>by
  simp only[ah.ofL]
  split
  ·simp
  ·rename_i hk
   rcases List.mem_cons.1 h with e|h
   ·have e1:p.1=k:=by rw[e]
    rw[e1,Nat.beq_refl] at hk
    cases hk
   ·exact pa h
theorem yF {L:List (Nat×bj)} {M:ah} {d:Nat} (B:bj) (h:ah.ofL L d=none):fZ L (M.set d B)=(fZ L M).set d B:=by
 funext x
 by_cases e:x=d
 ·subst e;rw[ah.set_eq];unfold fZ;rw[h,ah.set_eq]
 ·rw[ah.set_ne _ _ e];unfold fZ;rw[ah.set_ne _ _ e]
theorem jM.beside {P:Program} {f:FuncId} {args:List AV} {M:ah} {K:AV->ah->Prop} {d:Nat} {B:bj} (h:jM P f args M fun u M1=>M1 d=none/\K u (M1.set d B)):M d=none/\jM P f args (M.set d B) K:=by
 obtain⟨R,n,lb,L2,u',hs,ha,hb,hf,hr,hd,hk⟩:=h.out
 have hL:ah.ofL L2 d=none:=by
  cases hh:ah.ofL L2 d with
  |none=>rfl
  |some B'=>unfold fZ at hd;rw[hh] at hd;cases hd
 have hMd:M d=none:=by unfold fZ at hd;rw[hL] at hd;exact hd
 simp only[Bool.and_eq_true] at hb
 obtain⟨⟨⟨hb1,hb2⟩,hb3⟩,hb4⟩:=hb
 have far:∀k,ah.ofL L2 k≠none->(M k).isNone=true->((M.set d B) k).isNone=true:=by
  intro k h1 h2
  rw[ah.set_ne _ _ (fun e=>h1 (by rw[e];exact hL))]
  exact h2
 refine⟨hMd,⟨R,n,lb,L2,u',hs,ha,?_,?_,hr,?_⟩⟩
 ·simp only[Bool.and_eq_true]
  refine⟨⟨⟨hb1,hb2⟩,hb3⟩,?_⟩
  unfold m7 at hb4⊢
  rw[List.all_eq_true] at hb4⊢
  intro p hp
  have:=hb4 p hp
  simp only[List.any_nil,Bool.false_or] at this⊢
  have hkey:=List.all_eq_true.1 hb1 p hp
  exact far _ (fun e=>by rw[e] at hkey;cases hkey) this
 ·rw[List.all_eq_true] at hf⊢
  intro p hp
  exact far _ (pa hp) (hf p hp)
 ·rw[yF B hL];exact hk
def Jg:List (Nat×Nat)->Nat->Option Nat
 |[],_=>none
 |(t,ℓ)::r,n=>match Nat.beq n t with
  |true=>some ℓ
  |false=>Jg r n
def ge (as:List (Nat×Nat)):Operand->Option Nat
 | .tmp t=>Jg as t
 |_=>none
def rj (as:List (Nat×Nat)) (x:Operand):AV->Bool
 | .ptr ℓ _=>match ge as x with
  |some ℓ'=>Nat.beq ℓ ℓ'
  |none=>false
 |_=>false
def ue (r:aP) (P:Program) (f:FuncId) (args:List AV) (M:ah) (K:AV->ah->Prop):Prop:=
 match r with
 | .fresh=>jM P f args M K
 | .own=>ar P f args M K
 |_=>o9 P f args fun u=>K u M
def wl:aP->Bool
 | .flat=>true
 |_=>false
def fm:aP->Bool
 | .own=>true
 |_=>false
def bS:aP->Bool
 | .fresh=>true
 |_=>false
theorem ie {r:aP} (h:bS r=true) (P:Program) (f:FuncId) (args:List AV) (M:ah) (K:AV->ah->Prop):ue r P f args M K=jM P f args M K:=by
 cases r<;>first|rfl|cases h
theorem xo {r:aP} (h:fm r=true) (P:Program) (f:FuncId) (args:List AV) (M:ah) (K:AV->ah->Prop):ue r P f args M K=ar P f args M K:=by
 cases r<;>first|rfl|cases h
theorem ig {r:aP} (h:bS r=false) (ho:fm r=false) (P:Program) (f:FuncId) (args:List AV) (M:ah) (K:AV->ah->Prop):ue r P f args M K=o9 P f args fun u=>K u M:=by
 cases r<;>first|rfl|exact absurd h (by decide)|exact absurd ho (by decide)
def g9 (draw:Option aP) (tt:TT) (op:Op) (us:List AV) (M:ah):Rs:=
 match draw with
 |some .rows=>match op with
  | .load t _=>match us with
   |[.rel _ _ _]=> .no
   |[x]=>fh tt t M x
   |_=> .no
  |op=>nQ tt op us
 |some .pers=>match op with
  | .load t _=>match us with
   |[.pd cells]=>eM tt t cells
   |_=> .no
  |op=>nQ tt op us
 |some .fresh=>match op with
  | .load t _=>match us with
   |[.pd cells]=>eM tt t cells
   |_=> .no
  |op=>nQ tt op us
 |some (.boxes as)=>match op with
  | .load t x=>match ge as x with
   |none=>match us with
    |[.pd cells]=>eM tt t cells
    |_=> .no
   |some _=>match us with
    |[a]=>match rj as x a with
     |true=>om tt (.load t x) [a] M
     |false=> .no
    |_=> .no
  |op=>nQ tt op us
 |_=>om tt op us M
def dU (draw:Option aP) (tt:TT) (t:TypeId) (p:Operand) (us:List AV) (M:ah) (K:ah->Prop):Prop:=
 match draw with
 |some .rows=>match us with
  |[.rel ℓ j o,x]=>match bK x with
   |some cs=>match bZ cs with
    |true=>dQ tt t [.rel ℓ j o,x] M K
    |false=>False
   |none=>False
  |_=>False
 |some (.boxes as)=>match us with
  |[a,x]=>match rj as p a with
   |true=>dQ tt t [a,x] M K
   |false=>False
  |_=>False
 |_=>dQ tt t us M K
theorem yG {draw:Option aP} {tt:TT} {t:TypeId} {p:Operand} {us:List AV} {M:ah} {K:ah->Prop} (h:dU draw tt t p us M K):dQ tt t us M K:=by
 unfold dU at h
 split at h
 ·split at h
  ·split at h
   ·split at h
    ·exact h
    ·exact h.elim
   ·exact h.elim
  ·exact h.elim
 ·split at h
  ·split at h
   ·exact h
   ·exact h.elim
  ·exact h.elim
 ·exact h
theorem js (draw:Option aP) (tt:TT) (op:Op) (us:List AV) (M:ah):g9 draw tt op us M= .no\/g9 draw tt op us M=om tt op us M:=by
 have other:∀(op:Op),(∀t x,op= .load t x->False)->nQ tt op us=om tt op us M:=by
  intro op h
  unfold om
  split
  ·rename_i t x;exact absurd rfl (h t x)
  ·rfl
 unfold g9
 split
 ·split
  ·split
   ·exact .inl rfl
   ·exact .inr rfl
   ·exact .inl rfl
  ·rename_i h
   exact .inr (other _ h)
 ·split
  ·split
   ·exact .inr rfl
   ·exact .inl rfl
  ·rename_i h
   exact .inr (other _ h)
 ·split
  ·split
   ·exact .inr rfl
   ·exact .inl rfl
  ·rename_i h
   exact .inr (other _ h)
 ·split
  ·split
   ·split
    ·exact .inr rfl
    ·exact .inl rfl
   ·split
    ·split
     ·exact .inr rfl
     ·exact .inl rfl
    ·exact .inl rfl
  ·rename_i h
   exact .inr (other _ h)
 ·exact .inr rfl
structure nT (u:AV) (M:ah) (K:AV->ah->Prop):Prop where
 out:K u M\/dp [u] M fun us M'=>match us with|[x]=>K x M'|_=>False
theorem jN {u:AV} {M:ah} {K:AV->ah->Prop} (h:K u M):nT u M K:=⟨.inl h⟩
theorem dF {u:AV} {M:ah} {K:AV->ah->Prop} (h:dp [u] M fun us M'=>match us with|[x]=>K x M'|_=>False):nT u M K:=⟨.inr h⟩
theorem yH {u:AV} {M:ah} {K:AV->ah->Prop}:nT u M K↔(K u M\/dp [u] M fun us M'=>match us with|[x]=>K x M'|_=>False):=⟨fun h=>h.out,fun h=>⟨h⟩⟩
def rk (draw:Option aP) (K:AV->ah->Prop):AV->ah->Prop:=
 match draw with
 |none=>K
 |some _=>fun u M=>nT u M K
def sK (tt:TT) (t:TypeId):Bool:=
 match tt.find t with
 |some ⟨_,_, .slice e,_⟩=>match tt.find e with
  |some ⟨_,_, .int _,_⟩=>true
  |some ⟨_,_, .bool,_⟩=>true
  |some ⟨_,_, .string,_⟩=>true
  |_=>false
 |_=>false
def yI:AV->Bool
 | .row _ _ _=>false
 |_=>true
def xp:List AV->Bool
 |[]=>true
 |u::us=>match yI u with|true=>xp us|false=>false
def E8:AV->Bool
 | .row _ _ _=>false
 | .agg cs=>xp cs
 |_=>true
def kT:List AV->Bool
 |[]=>true
 |u::us=>match E8 u with|true=>kT us|false=>false
def uf:List Operand->Bool
 | .const (.slice none 0 0)::_=>true
 |_=>false
def m8 (draw:Option aP) (tt:TT) (t:TypeId) (len:Nat) (is:List Nat) (us:List AV) (dst:Option Tmp) (M:ah) (K:AV->ah->Prop):Prop:=
 match draw with
 |none=>eh tt t len is us dst M K
 |some r=>match (match wl r with|true=>true|false=>sK tt t) with
  |true=>match kT us with
   |true=>eh tt t len is us dst M (rk (some r) K)
   |false=>False
  |false=>eh tt t len is us dst M (rk (some r) K)
theorem rl {draw:Option aP} {tt:TT} {t:TypeId} {len:Nat} {is:List Nat} {us:List AV} {dst:Option Tmp} {M:ah} {K:AV->ah->Prop} (h:m8 draw tt t len is us dst M K):eh tt t len is us dst M (rk draw K):=by
 unfold m8 at h
 cases draw with
 |none=>exact h
 |some r=>
  simp only at h
  split at h
  ·split at h
   ·exact h
   ·exact h.elim
  ·exact h
def wm (draw:Option aP) (tt:TT) (args:List Operand) (ts:List TypeId) (us:List AV) (dst:Option Tmp) (M:ah) (K:AV->ah->Prop):Prop:=
 match draw with
 |some .fresh=>match uf args with
  |true=>match us with
   |[.nilsl, .sl d enc l]=>jK tt ts [.nilsl, .sl d enc l] dst M K
   |_=>False
  |false=>jK tt ts us dst M K
 |_=>jK tt ts us dst M K
theorem xq {draw:Option aP} {tt:TT} {args:List Operand} {ts:List TypeId} {us:List AV} {dst:Option Tmp} {M:ah} {K:AV->ah->Prop} (h:wm draw tt args ts us dst M K):jK tt ts us dst M K:=by
 unfold wm at h
 split at h
 ·split at h
  ·split at h
   ·exact h
   ·exact h.elim
  ·exact h
 ·exact h
def bf (P:Program) (tt:TT) (draw:Option aP) (o:Oper) (us:List AV) (M:ah) (K:AV->ah->Prop):Prop:=
 match o.op with
 | .store t p _=>match draw with
  |none=>sB tt t us M fun M'=>K (.tup []) M'
  |some _=>dU draw tt t p us M fun M'=>K (.tup []) M'
 | .alloc t=>iy tt t o.dst M K
 | .box t _=>Au t us o.dst M K
 | .makeSlice t _ _=>match draw with
  |none=>IR (lh tt t us o.dst M K) tt t us M K
  |some _=>lh tt t us o.dst M K
 | .range t _=>o3 tt t us o.dst M K
 | .next _ str=>tX str us M K
 | .slice t _ lo hi mx=>match draw with
  |none=>match lo,hi,mx,us with
   |none,some _,none,[.row ℓ n sz, .int _ b]=>wi (sC tt t ℓ n sz b o.dst M K) (xk tt t ℓ n sz 0 b M K)
   |some _,none,none,[.row ℓ n sz, .int _ a]=>xk tt t ℓ n sz a n M K
   |some _,none,none,[.part ℓ lo n sz, .int _ a]=>wj tt t ℓ lo n sz a M K
   |_,_,_,_=>fg (om tt o.op us M) fun u=>K u M
  |some _=>fg (g9 draw tt o.op us M) fun u=>K u M
 | .convert s d _=>match draw with
  |none=>match us with
   |[.row ℓ _ _]=>FK tt s d ℓ M K
   |_=>fg (om tt o.op us M) fun u=>K u M
  |some _=>fg (g9 draw tt o.op us M) fun u=>K u M
 | .makeMap _ r=>match draw,r with
  |none,none=>FI o.dst M K
  |_,_=>fg (g9 draw tt o.op us M) fun u=>K u M
 | .lookup t _ _ ok=>match draw with
  |none=>AE P tt t ok us M K
  |some _=>fg (g9 draw tt o.op us M) fun u=>K u M
 | .mapUpdate t _ _ _=>match draw with
  |none=>FJ P tt t us M fun M'=>K (.tup []) M'
  |some _=>fg (g9 draw tt o.op us M) fun u=>K u M
 | .buildSlice t len ps=>match draw with
  |none=>FE (m8 none tt t len (ps.toList.map (·.1)) us o.dst M K) tt t len (ps.toList.map (·.1)) us o.dst M K
  |some _=>m8 draw tt t len (ps.toList.map (·.1)) us o.dst M K
 | .call c=>match c.callee with
  | .value _=>match us with
   | .fn f caps::args=>match draw with
    |none=>yE args caps fun l=>ar P f l M K
    |some r=>yE args caps fun l=>ue r P f l M K
   |_=>False
  | .builtin .append=>match draw with
   |none=>JW (FD (wm none tt c.args.toList c.argTypes.toList us o.dst M K) tt c.argTypes.toList us o.dst M K) tt c.argTypes.toList us o.dst M K
   |some _=>wm draw tt c.args.toList c.argTypes.toList us o.dst M K
  | .builtin .copy=>match draw with
   |none=>Aw tt c.argTypes.toList us M K
   |some _=>fg (g9 draw tt o.op us M) fun u=>K u M
  |_=>fg (g9 draw tt o.op us M) fun u=>K u M
 |_=>fg (g9 draw tt o.op us M) fun u=>K u M
section
variable {S F:ae} {ρ:aw} {M:ah} {w:World} {P:Program} {tt:TT}
theorem dK.eval {a:Act} {fr:List AV} (h:dK S ρ a fr) (x:Operand):RV S ρ (a.eval x) (cm fr x):=by
 cases x with
 |tmp t=>
  simp only[Act.eval,cm]
  by_cases ht:t<fr.length
  ·have hg:fr[t]? =some (fr.getD t .top):=by simp[List.getD,ht]
   obtain⟨v,hv,hr⟩:=h.1.2 t _ hg
   have:a.tmps.getD t undef=v:=by
    have hv':a.tmps[t]? =some v:=by simpa using hv
    simp[hv']
   rw[this];exact hr
  ·have:fr.getD t .top= .top:=by simp[List.getD,ht]
   rw[this];exact .p (.top _)
 |const v=>exact .p (iK v)
 |func f=>exact RV.fn_mk f (ba.nil _ _)
 |global g=>exact .p (.val _)
theorem dK.evals {a:Act} {fr:List AV} (h:dK S ρ a fr):∀xs:List Operand,ba S ρ (xs.map a.eval) (xs.map (cm fr))
 |[]=>ba.nil _ _
 |x::xs=>ba.cons (h.eval x) (dK.evals h xs)
theorem ba.set_ {vs:List Value} {us:List AV} (h:ba S ρ vs us) (d:Nat) {v:Value} {u:AV} (hv:RV S ρ v u):ba S ρ (vs.set d v) (us.set d u):=by
 refine⟨by simp[h.1],fun i x hx=>?_⟩
 rw[List.getElem?_set] at hx⊢
 split at hx
 ·split at hx
  ·rename_i e hl
   subst e
   cases hx
   exact⟨v,by rw[if_pos rfl,if_pos (by rw[h.1];exact hl)],hv⟩
  ·simp at hx
 ·rename_i e
  obtain⟨y,hy,hr⟩:=h.2 i x hx
  exact⟨y,by rw[if_neg e];exact hy,hr⟩
theorem dK.put {a:Act} {fr:List AV} (h:dK S ρ a fr) (d:Option Tmp) {v:Value} {u:AV} (hv:RV S ρ v u):dK S ρ (a.put d v) (ca fr d u):=by
 cases d with
 |none=>exact h
 |some d=>exact⟨by simpa[Act.put,ca] using h.1.set_ d hv,h.2⟩
theorem dK.mono {S':ae} {ρ':aw} {a:Act} {fr:List AV} (h:dK S ρ a fr) (hS:S.le S') (hρ:aw.le ρ ρ'):dK S' ρ' a fr:=⟨h.1.mono hS hρ,h.2⟩
def cy (S F:ae) (ρ:aw) (w:World) (K:List AV->ah->Prop) (a:Act) (w':World):Prop:=
 ∃fr M' S' ρ',K fr M'/\S.le S'/\aw.le ρ ρ'/\az S' F ρ' M' w'/\dK S' ρ' a fr/\bX w w'
theorem cy.trans {S':ae} {ρ':aw} {w' w'':World} {K:List AV->ah->Prop} {a:Act} (h:cy S' F ρ' w' K a w'') (hS:S.le S') (hρ:aw.le ρ ρ') (hw:bX w w'):cy S F ρ w K a w'':=by
 obtain⟨fr,M',S2,ρ2,hk,h1,h2,h3,h4,h5⟩:=h
 exact⟨fr,M',S2,ρ2,hk,ae.le_trans hS h1,aw.le_trans hρ h2,h3,h4,hw.trans h5⟩
theorem cy.mono {K K':List AV->ah->Prop} {a:Act} {w':World} (h:cy S F ρ w K a w') (hk:∀fr M,K fr M->K' fr M):cy S F ρ w K' a w':=by
 obtain⟨fr,M',S2,ρ2,h0,h⟩:=h
 exact⟨fr,M',S2,ρ2,hk _ _ h0,h⟩
theorem AJ {o:Oper} {a:Act} {next:Act->World->Prop} {Q:Exit->Act->World->Prop} {m:Sem Value} {v:Value} {w':World} (he:execOp a.eval o=(do pure (.value (<-m)))) (h:m.run P w= .ok v w') (hn:next (a.put o.dst v) w'):
  o.wp P a w next Q:=by
 unfold Oper.wp;rw[he];simp only[Sem.run_bind,h,Result.andThen_ok,Sem.run_pure,Oper.upon];exact hn
theorem DG (hT:aW P tt=true) {draw:Option aP} {o:Oper} {us:List AV} {a:Act} {K:AV->ah->Prop} {Q:Exit->Act->World->Prop} {fr:List AV} (h:bf P tt draw o us M K) (hM:az S F ρ M w) (hF:dK S ρ a fr)
  (hu:ba S ρ ((aJ o.op).map a.eval) us):o.wp P a w (cy S F ρ w (fun fr' M'=>∃u,K u M'/\fr'=ca fr o.dst u)) Q:=by
 have fin:∀{m:Sem Value},execOp a.eval o=(do pure (.value (<-m)))->b8 P S F ρ w m K->o.wp P a w (cy S F ρ w (fun fr' M'=>∃u,K u M'/\fr'=ca fr o.dst u)) Q:=by
  intro m he ⟨v,u,M',S',ρ',w',hr,hK,h1,h2,h3,h4,h5⟩
  exact AJ he hr ⟨_,M',S',ρ',⟨u,hK,rfl⟩,h1,h2,h3,(hF.mono h1 h2).put _ h4,h5⟩
 have rs:∀{r:Rs},v9 S ρ P w (execOp a.eval o) r->∀{r':Rs},(r'= .no\/r'=r)->fg r' (fun u=>K u M)->o.wp P a w (cy S F ρ w (fun fr' M'=>∃u,K u M'/\fr'=ca fr o.dst u)) Q:=by
  intro r hr r' hr' hk
  rcases hr' with rfl|rfl
  ·exact hk.elim
  obtain⟨v,u,he,hv,hK⟩:=Ar hk hr
  unfold Oper.wp
  rw[he]
  exact⟨_,M,S,ρ,⟨u,hK,rfl⟩,ae.le_refl _,aw.le_refl _,hM,hF.put _ hv,bX.refl _⟩
 obtain⟨dst,op,ty,ps,af,gd⟩:=o
 unfold bf at h
 cases op with
 |store t x y=>
  have hL:lW P S F ρ w (Instr.storeAt t (a.eval x) (a.eval y)) (fun M'=>K (.tup []) M'):=by
   cases draw with
   |none=>exact yC hT h hM hu
   |some r=>exact kM hT (va:=a.eval x) (vx:=a.eval y) (yG h) hM hu
  obtain⟨M',S',ρ',w',hr,hK,h1,h2,h3,h5⟩:=hL
  unfold Oper.wp
  have he:(execOp a.eval ⟨dst, .store t x y,ty,ps,af,gd⟩).run P w= .ok .skip w':=by
   simp only[execOp,Sem.run_bind,hr,Result.andThen_ok,Sem.run_pure]
  rw[he]
  refine⟨_,M',S',ρ',⟨_,hK,rfl⟩,h1,h2,h3,(hF.mono h1 h2).put _ ?_,h5⟩
  exact RV.tup_mk (ba.nil _ _)
 |alloc t=>exact fin rfl (yw hT h hM)
 |range t x=>exact fin rfl (yx (v:=a.eval x) hT h hM hu)
 |next x str=>exact fin rfl (Az (v:=a.eval x) h hM hu)
 |slice t x lo hi mx=>
  simp only at h
  split at h
  ·split at h
   ·rename_i y ℓ n sz k b
    obtain⟨v0,vs1,e,h0,hv1⟩:=hu.cons_inv
    obtain⟨v1,vs2,e',h1,hv2⟩:=hv1.cons_inv
    have hv2':=hv2.nil_inv
    subst hv2'
    subst e'
    simp only[aJ,Option.toList,List.nil_append,List.append_nil,List.map_cons,List.map_nil,List.cons.injEq,and_true] at e
    obtain⟨e1,e2⟩:=e
    have hi:=h1.int_inv
    rw[<-e2] at hi
    rw[<-e1] at h0
    rcases h.out with h|h
    ·have:=wh (P:=P) (k:=k) hT h hM h0
     rw[<-hi] at this
     exact fin rfl this
    ·exact fin rfl (t9 (P:=P) (kl:=k) (kh:=k) hT h hM h0 (.inr ⟨rfl,rfl⟩) (.inl (by rw[<-hi];rfl)))
   ·rename_i y ℓ n sz k b
    obtain⟨v0,vs1,e,h0,hv1⟩:=hu.cons_inv
    obtain⟨v1,vs2,e',h1,hv2⟩:=hv1.cons_inv
    have hv2':=hv2.nil_inv
    subst hv2'
    subst e'
    simp only[aJ,Option.toList,List.nil_append,List.append_nil,List.map_cons,List.map_nil,List.cons.injEq,and_true] at e
    obtain⟨e1,e2⟩:=e
    have hi:=h1.int_inv
    rw[<-e2] at hi
    rw[<-e1] at h0
    exact fin rfl (t9 (P:=P) (kl:=k) (kh:=k) hT h hM h0 (.inl (by rw[<-hi];rfl)) (.inr ⟨rfl,rfl⟩))
   ·rename_i y ℓ p n sz k b
    obtain⟨v0,vs1,e,h0,hv1⟩:=hu.cons_inv
    obtain⟨v1,vs2,e',h1,hv2⟩:=hv1.cons_inv
    have hv2':=hv2.nil_inv
    subst hv2'
    subst e'
    simp only[aJ,Option.toList,List.nil_append,List.append_nil,List.map_cons,List.map_nil,List.cons.injEq,and_true] at e
    obtain⟨e1,e2⟩:=e
    have hi:=h1.int_inv
    rw[<-e2] at hi
    rw[<-e1] at h0
    have:=yB (P:=P) (k:=k) hT h hM h0
    rw[<-hi] at this
    exact fin rfl this
   ·exact rs (gI hT hM a.eval _ hu) (.inr rfl) h
  ·exact rs (gI hT hM a.eval _ hu) (js _ tt _ _ _) h
 |box t x=>exact fin rfl (Dy (v:=a.eval x) h hM hu)
 |convert t d x=>
  simp only at h
  split at h
  ·split at h
   ·rename_i ℓ n sz
    obtain⟨v0,vs1,e,h0,hv1⟩:=hu.cons_inv
    have hv1':=hv1.nil_inv
    subst hv1'
    simp only[aJ,List.map_cons,List.map_nil,List.cons.injEq,and_true] at e
    rw[<-e] at h0
    exact fin rfl (DD (P:=P) hT h hM h0)
   ·exact rs (gI hT hM a.eval _ hu) (.inr rfl) h
  ·exact rs (gI hT hM a.eval _ hu) (js _ tt _ _ _) h
 |makeMap t r=>
  simp only at h
  split at h
  ·exact fin rfl (DB (t:=t) h hM)
  ·exact rs (gI hT hM a.eval _ hu) (js _ tt _ _ _) h
 |lookup t x y ok=>
  simp only at h
  split at h
  ·exact fin rfl (AF (P:=P) (vm:=a.eval x) (vk:=a.eval y) hT h hM hu)
  ·exact rs (gI hT hM a.eval _ hu) (js _ tt _ _ _) h
 |mapUpdate t x y z=>
  simp only at h
  split at h
  ·obtain⟨M',S',ρ',w',hr,hK,h1,h2,h3,h5⟩:=DC (P:=P) (vm:=a.eval x) (vk:=a.eval y) (vx:=a.eval z) hT h hM hu
   unfold Oper.wp
   have he:(execOp a.eval ⟨dst, .mapUpdate t x y z,ty,ps,af,gd⟩).run P w= .ok .skip w':=by
    simp only[execOp,Sem.run_bind,hr,Result.andThen_ok,Sem.run_pure]
   rw[he]
   refine⟨_,M',S',ρ',⟨_,hK,rfl⟩,h1,h2,h3,(hF.mono h1 h2).put _ ?_,h5⟩
   exact RV.tup_mk (ba.nil _ _)
  ·exact rs (gI hT hM a.eval _ hu) (js _ tt _ _ _) h
 |makeSlice t x y=>
  cases draw with
  |none=>exact fin rfl (FM hT (vl:=a.eval x) (vc:=a.eval y) h hM hu fun h=>tY hT (vl:=a.eval x) (vc:=a.eval y) h hM hu)
  |some r=>exact fin rfl (tY hT (vl:=a.eval x) (vc:=a.eval y) h hM hu)
 |buildSlice t len parts=>
  have hz:((parts.toList.map (·.1)).zip ((parts.toList.map (·.2)).map a.eval)).toArray=parts.map fun(i,x)=>(i,a.eval x):=by
   apply Array.ext'
   simp only[List.toList_toArray,Array.toList_map,List.map_map]
   rw[List.zip_map']
   rfl
  refine fin rfl ?_
  cases draw with
  |none=>
   have:=DE (P:=P) (S:=S) (F:=F) (ρ:=ρ) (w:=w) (vs:=(parts.toList.map (fun p:Nat×Operand=>p.2)).map a.eval) hT h hM hu (by simp)
    (fun hA=>m6 (P:=P) (S:=S) (F:=F) (ρ:=ρ) (w:=w) (vs:=(parts.toList.map (fun p:Nat×Operand=>p.2)).map a.eval) hT (rl hA) hM hu (by simp))
   rw[hz] at this
   exact this
  |some r=>
   have:=m6 (P:=P) (S:=S) (F:=F) (ρ:=ρ) (w:=w) (vs:=(parts.toList.map (fun p:Nat×Operand=>p.2)).map a.eval) hT (rl h) hM hu (by simp)
   rw[hz] at this
   obtain⟨v,u,M',S',ρ',w',hr,hK,h1,h2,h3,h4,h5⟩:=this
   have hK':nT u M' K:=hK
   rcases hK'.out with hK|hK
   ·exact⟨v,u,M',S',ρ',w',hr,hK,h1,h2,h3,h4,h5⟩
   ·obtain⟨us',M2,S2,hK2,hle2,hv2,hM2,_⟩:=fY [u] [v] S' M' _ hK (ba.cons h4 (ba.nil _ _)) h3
    cases us' with
    |nil=>exact hK2.elim
    |cons x r=>
     cases r with
     |cons _ _=>exact hK2.elim
     |nil=>
      obtain⟨y,ys,e,hy,_⟩:=hv2.cons_inv
      injection e with e1 _
      subst e1
      exact⟨v,x,M2,S2,ρ',w',hr,hK2,ae.le_trans h1 hle2,h2,hM2,hy,h5⟩
 |call c=>
  obtain⟨callee,args,tys⟩:=c
  cases callee with
  |value f=>
   have hcall:∀(g:FuncId) (caps:Array Value),a.eval f= .func (.func g) #[] caps->kc P g->(execOp a.eval ⟨dst, .call ⟨.value f,args,tys⟩,ty,ps,af,gd⟩).run P w= .ok (.enter g (args.map a.eval++caps)) w:=by
    intro g caps hf ⟨fn,h1,h2,h3⟩
    simp only[execOp,resolve,hf,Deferred.ofValue,Sem.run_bind,Sem.run_pure,Result.andThen_ok,invoke,Array.empty_append,callFunc,run_program,h1,h2,h3,Bool.false_eq_true,if_false]
   simp only[aJ,List.map_cons] at hu
   cases us with
   |nil=>simp[ba] at hu
   |cons u0 us=>
    obtain⟨v0,vs,e,hv0,hvs⟩:=hu.cons_inv
    injection e with e1 e2
    subst e1;subst e2
    simp only at h
    split at h
    ·rename_i g caps args' e
     injection e with e1 e2
     subst e1;subst e2
     obtain⟨cv,hf,hcv⟩:=hv0.fn_inv
     have harr:(args.map a.eval++cv)=((args.toList.map a.eval)++cv.toList).toArray:=by apply Array.ext';simp
     split at h
     ·rw[ma] at h
      have hpl:kc P g:=by rw[bP] at h;exact h.1
      unfold Oper.wp
      rw[hcall g cv hf hpl]
      simp only[Oper.upon]
      rw[bP] at h
      rw[harr]
      refine(h.2 S F ρ _ w hM (hvs.append hcv)).mono ?_
      rintro e w' ⟨v,u,M',S',ρ',rfl,hK,h1,h2,h3,h4,h5⟩
      exact⟨_,M',S',ρ',⟨u,hK,rfl⟩,h1,h2,h3,(hF.mono h1 h2).put _ h4,h5⟩
     ·rename_i r
      rw[ma] at h
      have hS:ar P g (us++caps) M K:=by
       cases ho:fm r with
       |true=>
        rw[xo ho] at h
        exact h
       |false=>
        cases hr:bS r with
        |true=>
         rw[ie hr] at h
         exact h.spec
        |false=>
         rw[ig hr ho,d6] at h
         obtain⟨R,n,hspec,hp,_,hk⟩:=h
         exact ar.of_pure (M:=M) (K:=K) (n:=n) hspec hp hk
      have hpl:kc P g:=by rw[bP] at hS;exact hS.1
      unfold Oper.wp
      rw[hcall g cv hf hpl]
      simp only[Oper.upon]
      rw[bP] at hS
      rw[harr]
      refine(hS.2 S F ρ _ w hM (hvs.append hcv)).mono ?_
      rintro e w' ⟨v,u,M',S',ρ',rfl,hK,h1,h2,h3,h4,h5⟩
      exact⟨_,M',S',ρ',⟨u,hK,rfl⟩,h1,h2,h3,(hF.mono h1 h2).put _ h4,h5⟩
    ·exact h.elim
  |invoke r m=>exact rs (gI hT hM a.eval _ hu) (js draw tt _ _ _) h
  |builtin b=>
   cases b with
   |append=>
    have:b8 P S F ρ w (Builtin.append_ tys.toList.toArray ty ((aJ (.call ⟨.builtin .append,args,tys⟩)).map a.eval).toArray) K:=by
     cases draw with
     |none=>exact JV (P:=P) hT h hM hu fun h=>DF (P:=P) hT h hM hu fun hA=>t4 (P:=P) (S:=S) (F:=F) (ρ:=ρ) (w:=w) (ty:=ty) hT (xq hA) hM hu
     |some r=>exact t4 (P:=P) (S:=S) (F:=F) (ρ:=ρ) (w:=w) (ty:=ty) hT (xq h) hM hu
    refine fin (m:=Builtin.append_ tys.toList.toArray ty ((aJ (.call ⟨.builtin .append,args,tys⟩)).map a.eval).toArray) ?_ this
    simp only[execOp,resolve,aJ,Array.toArray_toList]
    have e:(args.toList.map a.eval).toArray=args.map a.eval:=by apply Array.ext';simp
    rw[e]
    rfl
   |copy=>
    cases draw with
    |some r=>exact rs (gI hT hM a.eval _ hu) (js _ tt _ _ _) h
    |none=>
     have:=AC (P:=P) (S:=S) (F:=F) (ρ:=ρ) (w:=w) (ty:=ty) hT h hM hu
     refine fin (m:=Builtin.copy_ tys.toList.toArray ty ((aJ (.call ⟨.builtin .copy,args,tys⟩)).map a.eval).toArray) ?_ this
     simp only[execOp,resolve,aJ,Array.toArray_toList]
     have e:(args.toList.map a.eval).toArray=args.map a.eval:=by apply Array.ext';simp
     rw[e]
     rfl
   |_=>exact rs (gI hT hM a.eval _ hu) (js draw tt _ _ _) h
 |_=>exact rs (gI hT hM a.eval _ hu) (js draw tt _ _ _) h
def lk:List Oper->Nat->Option Tmp
 |[],_=>none
 |o::_,0=>o.dst
 |_::l,n+1=>lk l n
theorem ug:∀(l:List Oper) (n:Nat),lk l n=(l[n]?).bind (·.dst)
 |[],_=>by simp[lk]
 |_::_,0=>by simp[lk]
 |_::l,n+1=>by rw[lk,ug l n];simp
def E9 (b want:Bool) (kt kf:Prop):Prop:=
 match b,want with
 |true,true=>kt
 |false,false=>kt
 |true,false=>kf
 |false,true=>kf
def gP (all:List Oper) (fr:List AV) (g:Option (Nat×Bool)) (kt kf:Prop):Prop:=
 match g with
 |none=>kt
 |some (j,want)=>match lk all j with
  |none=>False
  |some d=>sH fr d fun u=>match u with
   | .bool b=>E9 b want kt kf
   | .tup _=>kf
   |_=>False
def bJ (P:Program) (tt:TT) (draw:Option aP) (all:List Oper) (o:Oper) (fr:List AV) (M:ah) (K:List AV->ah->Prop):Prop:=
 gP all fr o.guard (ud fr (aJ o.op) fun us=>bf P tt draw o us M fun u M'=>qI fr o.dst u fun fr'=>K fr' M') (qI fr o.dst (.tup []) fun fr'=>K fr' M)
theorem rm {all:List Oper} {a:Act} {fr:List AV} {o:Oper} {kt kf:Prop} (h:gP all fr o.guard kt kf) (hF:dK S ρ a fr):
  if Region.wanted o (yielded all.toArray a.tmps) then kt else kf:=by
 unfold gP at h
 unfold Region.wanted
 cases hg:o.guard with
 |none=>rw[hg] at h;simpa using h
 |some p=>
  obtain⟨j,want⟩:=p
  rw[hg] at h
  simp only at h
  simp only[ug] at h
  split at h
  ·exact h.elim
  ·rename_i d hd
   rw[kS] at h
   have hy:yielded all.toArray a.tmps j=match a.tmps[d]? with|some (.bool b)=>some b|_=>none:=by
    unfold yielded
    have:(all.toArray[j]?).bind (·.dst)=some d:=by simpa using hd
    rw[this]
    rfl
   have hr:∀u,fr.getD d .top=u->u≠ .top->∃v,a.tmps[d]? =some v/\RV S ρ v u:=by
    intro u hu hne
    by_cases hl:d<fr.length
    ·have hg:fr[d]? =some u:=by rw[<-hu];simp[List.getD,hl]
     obtain⟨v,hv,hr⟩:=hF.1.2 d u hg
     exact⟨v,by simpa using hv,hr⟩
    ·exact absurd (by rw[<-hu];simp[List.getD,hl]) hne
   split at h
   ·rename_i b hb
    obtain⟨v,hv,hvr⟩:=hr _ hb (by simp)
    rw[hv,hvr.bool_inv] at hy
    simp only at hy
    simp only[hy]
    cases b<;>cases want<;>simpa[E9] using h
   ·rename_i cs hb
    obtain⟨v,hv,hvr⟩:=hr _ hb (by simp)
    obtain⟨vs,rfl,_⟩:=hvr.tup_inv
    rw[hv] at hy
    simp only at hy
    simp only[hy]
    simpa using h
   ·exact h.elim
theorem f4 (hT:aW P tt=true) {draw:Option aP} {all:List Oper} {o:Oper} {a:Act} {K:List AV->ah->Prop} {Q:Exit->Act->World->Prop} {fr:List AV} (h:bJ P tt draw all o fr M K) (hM:az S F ρ M w) (hF:dK S ρ a fr):
  if Region.wanted o (yielded all.toArray a.tmps) then o.wp P a w (cy S F ρ w K) Q else cy S F ρ w K (a.put o.dst undef) w:=by
 have:=rm h hF
 split
 ·rename_i hw
  rw[if_pos hw,dE] at this
  refine Oper.wp_mono (fun a' w' h'=>?_) (DG (Q:=Q) hT this hM hF (hF.evals _))
  exact h'.mono fun fr' M' ⟨u,hk,e⟩=>by rw[bn] at hk;rw[e];exact hk
 ·rename_i hw
  rw[if_neg hw,bn] at this
  exact⟨_,M,S,ρ,this,ae.le_refl _,aw.le_refl _,hM,hF.put _ (RV.tup_mk (ba.nil _ _)),bX.refl _⟩
def dq (P:Program) (tt:TT) (draw:Option aP) (all:List Oper):List Oper->List AV->ah->(List AV->ah->Prop)->Prop
 |[],fr,M,K=>K fr M
 |o::r,fr,M,K=>bJ P tt draw all o fr M fun fr' M'=>dq P tt draw all r fr' M' K
theorem xr (hT:aW P tt=true) {all:List Oper} {K:List AV->ah->Prop} {Q:Exit->Act->World->Prop}:∀(l:List Oper) (S:ae) (ρ:aw) (w:World) (a:Act) (fr:List AV) (M:ah),dq P tt none all l fr M K->az S F ρ M w->dK S ρ a fr->
  (∀a' w',cy S F ρ w K a' w'->Q .normal a' w')->wpList P all.toArray Q l a w
 |[],S,ρ,w,a,fr,M,h,hM,hF,hQ=>hQ _ _ ⟨fr,M,S,ρ,h,ae.le_refl _,aw.le_refl _,hM,hF,bX.refl _⟩
 |o::r,S,ρ,w,a,fr,M,h,hM,hF,hQ=>by
  have hs:=f4 (Q:=Q) hT h hM hF
  unfold wpList
  have next:∀a' w',cy S F ρ w (fun fr' M'=>dq P tt none all r fr' M' K) a' w'->wpList P all.toArray Q r a' w':=by
   rintro a' w' ⟨fr',M',S',ρ',hk,h1,h2,h3,h4,h5⟩
   exact xr hT r S' ρ' w' a' fr' M' hk h3 h4 fun a'' w'' h'=>hQ _ _ (h'.trans h1 h2 h5)
  split
  ·rename_i hw
   rw[if_pos hw] at hs
   exact .inl (Oper.wp_mono next hs)
  ·rename_i hw
   rw[if_neg hw] at hs
   exact next _ _ hs
end
end
section
def bu {X:Type 1} (T:(X->Prop)->Prop):Prop:=∃p:X->Prop,∀K,T K↔∃x,p x/\K x
theorem bu.false {X:Type 1}:bu (fun _:X->Prop=>False):=⟨fun _=>False,fun K=>by simp⟩
theorem bu.one {X:Type 1} (x:X):bu (fun K:X->Prop=>K x):=⟨fun y=>y=x,fun K=>by simp⟩
theorem bu.need {X:Type 1} (c:Prop) {T:(X->Prop)->Prop} (h:bu T):bu (fun K=>fX c (T K)):=by
 obtain⟨p,hp⟩:=h
 refine⟨fun x=>c/\p x,fun K=>?_⟩
 simp only[bA]
 show c/\T K↔_
 rw[hp]
 exact⟨fun⟨hc,x,h1,h2⟩=>⟨x,⟨hc,h1⟩,h2⟩,fun⟨x,⟨hc,h1⟩,h2⟩=>⟨hc,x,h1,h2⟩⟩
theorem bu.bind {X Y:Type 1} {T:(Y->Prop)->Prop} {U:Y->(X->Prop)->Prop} (h:bu T) (hU:∀y,bu (U y)):bu (fun K=>T fun y=>U y K):=by
 obtain⟨p,hp⟩:=h
 refine⟨fun x=>∃y,p y/\Classical.choose (hU y) x,fun K=>?_⟩
 show T (fun y=>U y K)↔_
 refine(hp _).trans ?_
 constructor
 ·rintro⟨y,hy,hK⟩
  obtain⟨x,h1,h2⟩:=(Classical.choose_spec (hU y) K).1 hK
  exact⟨x,⟨y,hy,h1⟩,h2⟩
 ·rintro⟨x,⟨y,hy,h1⟩,h2⟩
  exact⟨y,hy,(Classical.choose_spec (hU y) K).2 ⟨x,h1,h2⟩⟩
theorem bu.congr {X:Type 1} {T T':(X->Prop)->Prop} (h:bu T) (e:∀K,T' K↔T K):bu T':=by
 obtain⟨p,hp⟩:=h
 exact⟨p,fun K=>(e K).trans (hp K)⟩
theorem bu.ex {X:Type 1} {I:Sort _} {T:I->(X->Prop)->Prop} (h:∀i,bu (T i)):bu (fun K=>∃i,T i K):=by
 refine⟨fun x=>∃i,Classical.choose (h i) x,fun K=>?_⟩
 constructor
 ·rintro⟨i,hK⟩
  obtain⟨x,h1,h2⟩:=(Classical.choose_spec (h i) K).1 hK
  exact⟨x,⟨i,h1⟩,h2⟩
 ·rintro⟨x,⟨i,h1⟩,h2⟩
  exact⟨i,(Classical.choose_spec (h i) K).2 ⟨x,h1,h2⟩⟩
theorem bu.and {X:Type 1} (c:Prop) {T:(X->Prop)->Prop} (h:bu T):bu (fun K=>c/\T K):=by
 obtain⟨p,hp⟩:=h
 refine⟨fun x=>c/\p x,fun K=>?_⟩
 show c/\T K↔_
 rw[hp]
 exact⟨fun⟨hc,x,h1,h2⟩=>⟨x,⟨hc,h1⟩,h2⟩,fun⟨x,⟨hc,h1⟩,h2⟩=>⟨hc,x,h1,h2⟩⟩
theorem bu.or {X:Type 1} {T U:(X->Prop)->Prop} (h:bu T) (h':bu U):bu (fun K=>T K\/U K):=by
 obtain⟨p,hp⟩:=h
 obtain⟨q,hq⟩:=h'
 refine⟨fun x=>p x\/q x,fun K=>?_⟩
 show T K\/U K↔_
 rw[hp,hq]
 constructor
 ·rintro(⟨x,a,b⟩|⟨x,a,b⟩)
  ·exact⟨x, .inl a,b⟩
  ·exact⟨x, .inr a,b⟩
 ·rintro⟨x,a|a,b⟩
  ·exact .inl ⟨x,a,b⟩
  ·exact .inr ⟨x,a,b⟩
theorem mb:∀(us:List AV) (M:ah),bu (fun K:List AV×ah->Prop=>dp us M fun a b=>K (a,b))
 |[],M=>bu.one ([],M)
 |u::us,M=>by
  have key:∀(x:AV) (M':ah),bu (fun K:List AV×ah->Prop=>dp us M' fun us' M''=>K (x::us',M'')):=fun x M'=>
   (bu.bind (mb us M') (fun y:List AV×ah=>bu.one (x::y.1,y.2))).congr fun K=>Iff.rfl
  simp only[dp]
  split
  ·rename_i ℓ n sz
   split
   ·exact key _ _
   ·exact key _ _
   ·exact bu.false
  ·exact key _ _
theorem pb:∀(css:List (List AV)) (M:ah),bu (fun K:List (List AV)×ah->Prop=>iz css M fun a b=>K (a,b))
 |[],M=>bu.one ([],M)
 |cs::r,M=>by
  simp only[iz]
  refine(bu.bind (mb cs M) (U:=fun y K=>iz r y.2 fun r' M''=>K (y.1::r',M'')) (fun y=>?_)).congr fun K=>Iff.rfl
  exact(bu.bind (pb r y.2) (fun z:List (List AV)×ah=>bu.one (y.1::z.1,z.2))).congr fun K=>Iff.rfl
theorem m9 (tt:TT) (t:TypeId) (us:List AV) (M:ah):bu (fun K:ah->Prop=>dQ tt t us M K):=by
 unfold dQ
 split
 ·split
  ·split
   ·split
    ·split
     ·split
      ·simp only[dw];exact bu.one _
      ·exact bu.false
     ·exact bu.false
    ·rename_i ℓ j o
     refine(bu.bind (mb _ M) (U:=fun y (K:ah->Prop)=>match y.2 ℓ with
      |some (.row rt d enc l)=>match bZ y.1,Nat.ble (o+y.1.length) (enc (l.getD j d)).length with
       |true,true=>oq enc (l.getD j d) o y.1 fun a'=>K (y.2.set ℓ (.row rt d enc (l.set j a')))
       |_,_=>False
      |_=>False) (fun y=>?_)).congr fun K=>Iff.rfl
     split
     ·split
      ·simp only[eY]
       exact bu.ex fun a'=>bu.and _ (bu.one _)
      ·exact bu.false
     ·exact bu.false
    ·exact bu.false
   ·exact bu.false
  ·exact bu.false
 ·exact bu.false
theorem yJ (tt:TT) (t:TypeId) (dst:Option Tmp) (M:ah):bu (fun K:AV×ah->Prop=>iy tt t dst M fun a b=>K (a,b)):=by
 unfold iy
 split
 ·split
  ·simp only[dw];exact bu.one (_,_)
  ·exact bu.false
 ·exact bu.false
theorem DH (t:TypeId) (us:List AV) (dst:Option Tmp) (M:ah):bu (fun K:AV×ah->Prop=>Au t us dst M fun a b=>K (a,b)):=by
 unfold Au
 split
 ·split
  ·exact(bu.or (bu.and _ (bu.one (_,_))) (bu.one (_,_))).congr fun K=>⟨fun h=>h.out,fun h=>⟨h⟩⟩
  ·exact bu.false
 ·exact bu.false
theorem AK (tt:TT) (t:TypeId) (us:List AV) (dst:Option Tmp) (M:ah):bu (fun K:AV×ah->Prop=>lh tt t us dst M fun a b=>K (a,b)):=by
 unfold lh
 split
 ·split
  ·split
   ·simp only[jl]
    exact bu.and _ (bu.ex fun α=>bu.ex fun d=>bu.ex fun enc=>bu.ex fun z=>bu.and _ (bu.one (_,_)))
   ·exact bu.false
  ·exact bu.false
 ·exact bu.false
theorem yK (tt:TT) (t:TypeId) (len:Nat) (is:List Nat) (us:List AV) (dst:Option Tmp) (M:ah):bu (fun K:AV×ah->Prop=>eh tt t len is us dst M fun a b=>K (a,b)):=by
 unfold eh
 split
 ·rename_i d _ _ e _ _
  split
  ·rename_i i _
   split
   ·refine(bu.bind (pb _ M) (U:=fun y (K:AV×ah->Prop)=>match y.2 d with
      |none=>match iM y.1 with
       |true=>match lU y.1 with
        |some ns=>K (.row d len i.size,y.2.set d (.row e (0:Int) aD ns))
        |none=>Av y.1 fun _ dd enc l=>K (.row d len i.size,y.2.set d (.row e dd enc l))
       |false=>False
      |some _=>False) (fun y=>?_)).congr fun K=>Iff.rfl
    split
    ·split
     ·split
      ·exact bu.one (_,_)
      ·simp only[gK]
       exact bu.ex fun α=>bu.ex fun d=>bu.ex fun enc=>bu.ex fun z=>bu.and _ (bu.one (_,_))
     ·exact bu.false
    ·exact bu.false
   ·exact bu.false
  ·exact bu.false
 ·exact bu.false
theorem DI (tt:TT) (d:Nat) (e:TypeId) (i:TI) (s x:AV) (M:ah) (β:Type) (dd':β) (enc':β->List AV) (l':List β):bu (fun K:AV×ah->Prop=>match Nat.beq (enc' (l'.getD 0 dd')).length i.size with
  |true=>match s with
   | .nilsl=>fX (l'.length*i.bytes<=140737488355328) (K (.row d l'.length i.size,M.set d (.row e dd' enc' l')))
   | .slc dd enc l=>match Nat.beq (enc (l.getD 0 dd)).length i.size with
    |true=>fX (0<l'.length) (tW enc l enc' l' i.bytes fun l''=>K (.row d (l.length+l'.length) i.size,M.set d (.row e dd enc (l++l''))))
    |false=>False
   | .row ℓ n sz=>match M ℓ,Nat.beq sz i.size with
    |some (.row e' dd enc l),true=>match Nat.beq e' e,(match x with| .row ℓ' _ _=>!(Nat.beq ℓ ℓ')|_=>true) with
     |true,true=>tW enc l enc' l' i.bytes fun l''=>K (.row d (n+l'.length) i.size,(M.set ℓ .dead).set d (.row e dd enc (l++l'')))
     |_,_=>False
    |_,_=>False
   |_=>False
  |false=>False):=by
 split
 ·split
  ·exact bu.need _ (bu.one (_,_))
  ·split
   ·simp only[gM]
    exact bu.need _ (bu.and _ (bu.ex fun l''=>bu.and _ (bu.one (_,_))))
   ·exact bu.false
  ·split
   ·split
    ·simp only[gM]
     exact bu.and _ (bu.ex fun l''=>bu.and _ (bu.one (_,_)))
    ·exact bu.false
   ·exact bu.false
  ·exact bu.false
 ·exact bu.false
theorem DJ (x:AV) (M:ah) {X:Type 1} {U:(α:Type)->α->(α->List AV)->List α->(X->Prop)->Prop} (h:∀α d enc l,bu (U α d enc l)):bu (fun K:X->Prop=>sA x M fun α d enc l=>U α d enc l K):=by
 unfold sA
 split
 ·exact h _ _ _ _
 ·split
  ·exact h _ _ _ _
  ·exact h _ _ _ _
  ·exact bu.false
 ·exact h _ _ _ _
 ·exact bu.false
theorem wo (tt:TT) (ts:List TypeId) (us:List AV) (dst:Option Tmp) (M:ah):bu (fun K:AV×ah->Prop=>fk tt ts us dst M fun a b=>K (a,b)):=by
 unfold fk
 split
 ·split
  ·split
   ·split
    ·exact bu.false
    ·exact DJ _ M fun α d enc l=>DI tt _ _ _ _ _ M α d enc l
   ·exact bu.false
  ·exact bu.false
 ·exact bu.false
theorem uh (tt:TT) (ts:List TypeId) (us:List AV) (dst:Option Tmp) (M:ah):bu (fun K:AV×ah->Prop=>ka tt ts us dst M fun a b=>K (a,b)):=by
 unfold ka
 split
 ·split
  ·split
   ·split
    ·simp only[jl]
     exact bu.and _ (bu.ex fun α=>bu.ex fun d=>bu.ex fun enc=>bu.ex fun z=>bu.and _ (bu.one (_,_)))
    ·exact bu.false
   ·exact bu.false
  ·exact bu.false
 ·exact bu.false
theorem pc (tt:TT) (ts:List TypeId) (us:List AV) (dst:Option Tmp) (M:ah):bu (fun K:AV×ah->Prop=>jK tt ts us dst M fun a b=>K (a,b)):=by
 unfold jK
 split
 ·exact uh tt ts _ dst M
 ·exact wo tt ts us dst M
theorem yL (tt:TT) (t:TypeId) (us:List AV) (dst:Option Tmp) (M:ah):bu (fun K:AV×ah->Prop=>o3 tt t us dst M fun a b=>K (a,b)):=by
 unfold o3
 split
 ·split
  ·exact bu.one (_,_)
  ·exact bu.false
 ·exact bu.false
theorem AM (str:Bool) (us:List AV) (M:ah):bu (fun K:AV×ah->Prop=>tX str us M fun a b=>K (a,b)):=by
 unfold tX
 split
 ·split
  ·rename_i s pos _
   simp only[rc]
   by_cases h:pos<s.size
   ·exact(bu.one (_,_)).congr fun K=>⟨fun hh=>hh.1 h,fun hh=>⟨fun _=>hh,fun hn=>absurd h hn⟩⟩
   ·exact(bu.one (_,_)).congr fun K=>⟨fun hh=>hh.2 h,fun hh=>⟨fun hp=>absurd hp h,fun _=>hh⟩⟩
  ·exact bu.false
 ·exact bu.false
def cls:Op->Nat
 | .load _ _=>1
 | .store _ _ _| .alloc _| .box _ _| .makeSlice _ _ _| .buildSlice _ _ _| .range _ _| .next _ _=>3
 | .call c=>match c.callee with
  | .value _=>2
  | .builtin .append=>3
  |_=>0
 |_=>0
variable {P:Program} {tt:TT}
theorem na {o:Oper} (h:cls o.op=0\/cls o.op=1) (r:aP) (us:List AV) (M:ah) (K:AV->ah->Prop):bf P tt (some r) o us M K=fg (g9 (some r) tt o.op us M) fun u=>K u M:=by
 unfold bf
 cases ho:o.op with
 |store _ _ _=>rw[ho] at h;simp[cls] at h
 |alloc _=>rw[ho] at h;simp[cls] at h
 |box _ _=>rw[ho] at h;simp[cls] at h
 |range _ _=>rw[ho] at h;simp[cls] at h
 |next _ _=>rw[ho] at h;simp[cls] at h
 |makeSlice _ _ _=>rw[ho] at h;simp[cls] at h
 |buildSlice _ _ _=>rw[ho] at h;simp[cls] at h
 |call c=>
  obtain⟨callee,args,tys⟩:=c
  cases callee with
  |value f=>rw[ho] at h;simp[cls] at h
  |invoke _ _=>rfl
  |builtin b=>cases b<;>first|rfl|(rw[ho] at h;simp[cls] at h)
 |_=>rfl
theorem AN {op:Op} (h:cls op=0) (us:List AV) (M M':ah):om tt op us M=om tt op us M':=by
 cases op<;>first|rfl|simp[cls] at h
def gp (r:aP) (op:Op):Nat:=
 match r,op with
 | .pers, .load _ _=>0
 | .fresh, .load _ _=>0
 | .boxes as, .load _ x=>match ge as x with
  |none=>0
  |some _=>1
 |_,op=>cls op
theorem xt (r:aP) {op:Op} (h:gp r op=0) (us:List AV) (M M':ah):g9 (some r) tt op us M=g9 (some r) tt op us M':=by
 cases r with
 |any=>exact AN h us M M'
 |flat=>exact AN h us M M'
 |own=>exact AN h us M M'
 |boxes as=>
  unfold g9
  cases op with
  |load t x=>
   simp only[gp] at h⊢
   cases hs:ge as x with
   |some l=>rw[hs] at h;cases h
   |none=>rfl
  |_=>rfl
 |fresh=>
  unfold g9
  cases op<;>rfl
 |rows=>
  unfold g9
  cases op<;>first|rfl|simp[gp,cls] at h
 |pers=>
  unfold g9
  cases op<;>rfl
theorem iB {r:aP} {op:Op} (h:gp r op=0):cls op=0\/cls op=1:=by
 cases r<;>cases op<;>first|exact .inl h|exact .inr rfl
theorem f7 {r:aP} {op:Op} {n:Nat} (h:gp r op=n+1):cls op=n+1:=by
 cases r with
 |boxes as=>
  cases op with
  |load t x=>
   simp only[gp] at h
   split at h
   ·cases h
   ·exact h
  |_=>exact h
 |_=>cases op<;>first|exact h|(simp[gp] at h)
theorem wq (draw:Option aP) (tt:TT) (t:TypeId) (p:Operand) (us:List AV) (M:ah):bu (fun K:ah->Prop=>dU draw tt t p us M K):=by
 unfold dU
 split
 ·split
  ·split
   ·split
    ·exact m9 tt t _ M
    ·exact bu.false
   ·exact bu.false
  ·exact bu.false
 ·split
  ·split
   ·exact m9 tt t _ M
   ·exact bu.false
  ·exact bu.false
 ·exact m9 tt t us M
theorem sL {o:Oper} (h:cls o.op=3) (r:aP) (us:List AV) (M:ah):bu (fun K:AV×ah->Prop=>bf P tt (some r) o us M fun a b=>K (a,b)):=by
 unfold bf
 cases ho:o.op with
 |store t p _=>exact(bu.bind (wq (some r) tt t p us M) (fun m=>bu.one (.tup [],m))).congr fun K=>Iff.rfl
 |alloc t=>exact yJ tt t o.dst M
 |range t _=>exact yL tt t us o.dst M
 |next _ str=>exact AM str us M
 |box t _=>exact DH t us o.dst M
 |makeSlice t _ _=>exact AK tt t us o.dst M
 |buildSlice t len ps=>
  have leak:∀r:aP,bu (fun K:AV×ah->Prop=>eh tt t len (ps.toList.map (·.1)) us o.dst M (rk (some r) fun a b=>K (a,b))):=by
   intro r
   refine(bu.bind (yK tt t len _ us o.dst M) (U:=fun z K=>nT z.1 z.2 fun a b=>K (a,b)) (fun z=>?_)).congr fun K=>Iff.rfl
   simp only[yH]
   refine bu.or (bu.one (z.1,z.2)) ?_
   refine(bu.bind (mb [z.1] z.2) (U:=fun y K=>match y.1 with|[x]=>K (x,y.2)|_=>False) (fun y=>?_)).congr fun K=>Iff.rfl
   split
   ·exact bu.one (_,_)
   ·exact bu.false
  unfold m8
  simp only
  split
  ·split
   ·exact leak r
   ·exact bu.false
  ·exact leak r
 |call c=>
  obtain⟨callee,args,tys⟩:=c
  cases callee with
  |value f=>rw[ho] at h;simp[cls] at h
  |invoke _ _=>rw[ho] at h;simp[cls] at h
  |builtin b=>
   have app:bu (fun K:AV×ah->Prop=>wm (some r) tt args.toList tys.toList us o.dst M fun a b=>K (a,b)):=by
    unfold wm
    split
    ·split
     ·split
      ·exact pc tt _ _ o.dst M
      ·exact bu.false
     ·exact pc tt _ us o.dst M
    ·exact pc tt _ us o.dst M
   cases b<;>first|exact app|(rw[ho] at h;simp[cls] at h)
 |_=>rw[ho] at h;simp[cls] at h
end
section
def gv (all:List Oper) (fr:List AV):Option (Nat×Bool)->Option Bool
 |none=>some true
 |some (j,want)=>match lk all j with
  |none=>none
  |some d=>match fr.getD d .top with
   | .bool b=>some (b==want)
   | .tup _=>some false
   |_=>none
def kg:List Operand->List Nat
 |[]=>[]
 | .tmp t::r=>t::kg r
 |_::r=>kg r
def jt (all:List Oper) (o:Oper):List Nat:=
 kg (aJ o.op)++(match o.guard with|some (j,_)=>(lk all j).toList|none=>[])
def wr (all:List Oper) (x y:Oper):Bool:=
 (match x.dst with|some d=>!(jt all y).contains d&&!(decide (y.dst=some d))|none=>true)&&(match y.dst with|some d=>!(jt all x).contains d|none=>true)
def ii:Op->Bool
 | .store _ _ _=>true
 |_=>false
def pe:aP->Bool
 | .rows=>true
 |_=>false
def xu:Op->Bool
 | .alloc _=>true
 |_=>false
def DK (tt:TT) (r:aP):Op->Bool
 | .alloc _=>true
 | .makeSlice _ _ _=>true
 | .buildSlice t _ _=>match wl r with|true=>true|false=>sK tt t
 | .call c=>match c.callee with
  | .builtin .append=>bS r&&uf c.args.toList
  |_=>false
 |_=>false
def ly (tt:TT) (r:aP) (x y:Op):Bool:=DK tt r y&&(match gp r x with
 |0=>true
 |1=>true
 |2=>bS r||xu y
 |_=>DK tt r x)
def AO (r:aP) (op:Op):Option Nat:=
 match r with
 | .boxes as=>match op with
  | .load _ x=>ge as x
  | .store _ x _=>ge as x
  |_=>none
 |_=>none
def yM (r:aP) (x y:Op):Bool:=
 match AO r x,AO r y with
 |some a,some b=>!(Nat.beq a b)
 |_,_=>false
def ow (op:Op):Bool:=Nat.beq (cls op) 2
def nU (tt:TT) (r:aP) (all:List Oper) (x y:Oper):Bool:=
 wr all x y&&!(fm r&&(ow x.op||ow y.op))&&(ly tt r x.op y.op||(match gp r x.op,gp r y.op with
  |0,_=>true
  |_,0=>true
  |1,1=>true
  |1,2=>true
  |2,1=>true
  |_,_=>false)||(pe r&&(decide (cls x.op=1)&&ii y.op||ii x.op&&decide (cls y.op=1)))||yM r x.op y.op)
section
variable {P:Program} {tt:TT} {all:List Oper} {r:aP}
theorem bB (draw:Option aP) (o:Oper) (fr:List AV) (M:ah) (K:List AV->ah->Prop):bJ P tt draw all o fr M K↔(match gv all fr o.guard with
  |some true=>bf P tt draw o ((aJ o.op).map (cm fr)) M fun u M'=>K (ca fr o.dst u) M'
  |some false=>K (ca fr o.dst (.tup [])) M
  |none=>False):=by
 unfold bJ gP gv
 cases o.guard with
 |none=>simp only[dE,bn]
 |some p=>
  obtain⟨j,want⟩:=p
  simp only
  cases lk all j with
  |none=>exact Iff.rfl
  |some d=>
   simp only[kS,dE,bn]
   cases fr.getD d .top with
   |bool b=>cases b<;>cases want<;>exact Iff.rfl
   |_=>exact Iff.rfl
theorem ki {fr:List AV} {d t:Nat} (h:d≠t) (u:AV):(fr.set d u).getD t .top=fr.getD t .top:=by
 simp[List.getD,List.getElem?_set_ne h]
theorem kj {fr:List AV} {d:Nat} (u:AV):∀(xs:List Operand),d∉kg xs->xs.map (cm (fr.set d u))=xs.map (cm fr)
 |[],_=>rfl
 |x::xs,h=>by
  cases x with
  |tmp t=>
   simp only[kg,List.mem_cons,not_or] at h
   simp only[List.map_cons,kj u xs h.2,cm,ki h.1]
  |const v=>simp only[kg] at h;simp only[List.map_cons,kj u xs h];rfl
  |func f=>simp only[kg] at h;simp only[List.map_cons,kj u xs h];rfl
  |global g=>simp only[kg] at h;simp only[List.map_cons,kj u xs h];rfl
theorem iT {o:Oper} {fr:List AV} {dd:Option Tmp} (h:∀d,dd=some d->d∉jt all o) (u:AV):
  (aJ o.op).map (cm (ca fr dd u))=(aJ o.op).map (cm fr)/\gv all (ca fr dd u) o.guard=gv all fr o.guard:=by
 cases dd with
 |none=>exact⟨rfl,rfl⟩
 |some d=>
  have hd:=h d rfl
  simp only[jt,List.mem_append,not_or] at hd
  refine⟨kj u _ hd.1,?_⟩
  unfold gv
  cases hg:o.guard with
  |none=>rfl
  |some p=>
   obtain⟨j,want⟩:=p
   rw[hg] at hd
   simp only at hd⊢
   cases hj:lk all j with
   |none=>rfl
   |some d'=>
    rw[hj] at hd
    have:d≠d':=by simpa using hd.2
    simp only[ca,ki this]
theorem yN {fr:List AV} {x y:Option Tmp} (h:∀d,x=some d->y≠some d) (u v:AV):ca (ca fr x u) y v=ca (ca fr y v) x u:=by
 cases x with
 |none=>rfl
 |some d=>
  cases y with
  |none=>rfl
  |some e=>
   have:d≠e:=fun he=>h d rfl (by rw[he])
   simp only[ca]
   rw[List.set_comm u v this]
theorem ws {x y:Oper} (h:wr all x y=true):(∀d,x.dst=some d->d∉jt all y)/\(∀d,x.dst=some d->y.dst≠some d)/\(∀d,y.dst=some d->d∉jt all x):=by
 unfold wr at h
 rw[Bool.and_eq_true] at h
 refine⟨fun d hd=>?_,fun d hd=>?_,fun d hd=>?_⟩
 ·have:=h.1;rw[hd] at this;simp at this;exact this.1
 ·have:=h.1;rw[hd] at this;simp at this;exact this.2
 ·have:=h.2;rw[hd] at this;simpa using this
theorem nV {o:Oper} {dd:Option Tmp} (h1:∀d,dd=some d->d∉jt all o) (h2:∀d,dd=some d->o.dst≠some d) (draw:Option aP) (fr:List AV) (u:AV) (M:ah) (K:List AV->ah->Prop):
  bJ P tt draw all o (ca fr dd u) M K↔bJ P tt draw all o fr M fun fr' M'=>K (ca fr' dd u) M':=by
 rw[bB,bB]
 obtain⟨e1,e2⟩:=iT (fr:=fr) h1 u
 rw[e1,e2]
 have e3:∀v,ca (ca fr dd u) o.dst v=ca (ca fr o.dst v) dd u:=fun v=>yN h2 u v
 simp only[e3]
theorem FN {r:Rs} {x y:AV} (hx:fg r (fun u=>u=x)) (hy:fg r (fun u=>u=y)):x=y:=by
 cases r with
 |no=>exact hx.elim
 |val u=>simp only[fg,aK] at*;rw[<-hx,<-hy]
 |need c u=>simp only[fg,aK] at*;simp only[bA] at*;rw[<-hx.2,<-hy.2]
 |arith c k n=>simp only[fg] at*;simp only[dl] at*;rw[<-hx.2,<-hy.2]
 |cmp p i=>simp only[fg] at*;simp only[gJ] at*;rw[<-hx,<-hy]
theorem pf {o:Oper} (h:cls o.op=2) (us:List AV):(∀M K,bf P tt (some r) o us M K=False)\/∃f l,∀M K,bf P tt (some r) o us M K=ue r P f l M K:=by
 unfold bf
 cases ho:o.op with
 |call c=>
  obtain⟨callee,args,tys⟩:=c
  cases callee with
  |value f=>
   simp only
   cases us with
   |nil=>exact .inl fun M K=>rfl
   |cons u us=>
    cases u with
    |fn f caps=>exact .inr ⟨f,us++caps,fun M K=>by simp only[ma]⟩
    |_=>exact .inl fun M K=>rfl
  |invoke _ _=>rw[ho] at h;simp[cls] at h
  |builtin b=>rw[ho] at h;cases b<;>simp[cls] at h
 |_=>rw[ho] at h;simp[cls] at h
theorem kU (op:Op):cls op=0\/cls op=1\/cls op=2\/cls op=3:=by
 cases op<;>first|(left;rfl)|(right;left;rfl)|(right;right;right;rfl)|skip
 rename_i c
 obtain⟨callee,args,tys⟩:=c
 cases callee with
 |value f=>right;right;left;rfl
 |invoke _ _=>left;rfl
 |builtin b=>cases b<;>first|(left;rfl)|(right;right;right;rfl)
theorem pg {t:TypeId} {p:Operand} {us:List AV} {M:ah} {K:ah->Prop} (h:dU (some .rows) tt t p us M K):∃ℓ rt,∃(α:Type) (d:α) (enc:α->List AV) (l l':List α),M ℓ=some (.row rt d enc l)/\K (M.set ℓ (.row rt d enc l'))/\∀K':ah->Prop,K' (M.set ℓ (.row rt d enc l'))->dU (some .rows) tt t p us M K':=by
 have leak:∀(cs:List AV) (M:ah) (K:List AV->ah->Prop),bZ cs=true->dp cs M K=K cs M:=by
  intro cs
  induction cs with
  |nil=>intro M K _;rfl
  |cons u us ih=>
   intro M K hp
   simp only[bZ] at hp
   split at hp
   ·rename_i hu
    cases u with
    |row a b c=>simp[lS] at hu
    |_=>simp only[dp];rw[ih _ _ hp]
   ·cases hp
 unfold dU at h
 simp only at h
 split at h
 ·rename_i ℓ j o x
  split at h
  ·rename_i cs hcs
   split at h
   ·rename_i hp
    unfold dQ at h
    simp only[hcs] at h
    split at h
    ·rename_i cs0 i e ht
     cases e
     split at h
     ·rename_i hsz
      rw[leak cs M _ hp] at h
      split at h
      ·rename_i rt α d enc l hl
       split at h
       ·rename_i hp2 hle
        rw[eY] at h
        obtain⟨a',ha,hK⟩:=h
        refine⟨ℓ,rt,α,d,enc,l,l.set j a',hl,hK,fun K' hK'=>?_⟩
        unfold dU
        simp only[hcs,hp]
        unfold dQ
        simp only[hcs,ht,hsz]
        rw[leak cs M _ hp,hl]
        simp only[hp,hle]
        rw[eY]
        exact⟨a',ha,hK'⟩
       ·exact h.elim
      ·exact h.elim
     ·exact h.elim
    ·exact h.elim
   ·exact h.elim
  ·exact h.elim
 ·exact h.elim
theorem xv {t:TypeId} {p:Operand} {us:List AV} {M:ah} {ℓ:Nat} {rt:TypeId} {α:Type} {d:α} {enc:α->List AV} {l l':List α} (hl:M ℓ=some (.row rt d enc l)):
  g9 (some .rows) tt (.load t p) us (M.set ℓ (.row rt d enc l'))=g9 (some .rows) tt (.load t p) us M:=by
 simp only[g9]
 split
 ·rfl
 ·rename_i x hx
  unfold fh
  split
  ·rfl
  ·rename_i ℓ' o
   by_cases e:ℓ'=ℓ
   ·subst e;rw[ah.set_eq,hl]
   ·rw[ah.set_ne _ _ e]
  ·rename_i ℓ' i o
   exact absurd rfl (hx ℓ' i o)
  ·rfl
 ·rfl
theorem gQ {M M1:ah} (he:∀ℓ B,M ℓ=some B->M1 ℓ=some B) {t:TypeId} {x:AV} {k:AV->Prop} (h:fg (fh tt t M x) k):fh tt t M1 x=fh tt t M x:=by
 unfold fh at h⊢
 cases x with
 |ptr ℓ o=>
  simp only at h⊢
  cases hM:M ℓ with
  |none=>rw[hM] at h;exact h.elim
  |some B=>rw[he ℓ B hM]
 |rel ℓ i o=>
  simp only at h⊢
  cases hM:M ℓ with
  |none=>rw[hM] at h;exact h.elim
  |some B=>rw[he ℓ B hM]
 |_=>rfl
theorem DL {M M1:ah} (he:∀ℓ B,M ℓ=some B->M1 ℓ=some B) {op:Op} {us:List AV} {k:AV->Prop} (h:fg (g9 (some r) tt op us M) k):g9 (some r) tt op us M1=g9 (some r) tt op us M:=by
 cases r with
 |any=>
  have h:fg (om tt op us M) k:=h
  show om tt op us M1=om tt op us M
  cases op with
  |load t x=>
   cases us with
   |nil=>rfl
   |cons a l=>
    cases l with
    |nil=>exact gQ he h
    |cons _ _=>rfl
  |_=>rfl
 |flat=>
  have h:fg (om tt op us M) k:=h
  show om tt op us M1=om tt op us M
  cases op with
  |load t x=>
   cases us with
   |nil=>rfl
   |cons a l=>
    cases l with
    |nil=>exact gQ he h
    |cons _ _=>rfl
  |_=>rfl
 |own=>
  have h:fg (om tt op us M) k:=h
  show om tt op us M1=om tt op us M
  cases op with
  |load t x=>
   cases us with
   |nil=>rfl
   |cons a l=>
    cases l with
    |nil=>exact gQ he h
    |cons _ _=>rfl
  |_=>rfl
 |rows=>
  cases op with
  |load t x=>
   cases us with
   |nil=>rfl
   |cons a l=>
    cases l with
    |nil=>
     cases a with
     |rel _ _ _=>rfl
     |_=>simp only[g9] at h⊢;exact gQ he h
    |cons _ _=>simp only[g9]
  |_=>rfl
 |pers=>cases op<;>rfl
 |fresh=>cases op<;>rfl
 |boxes as=>
  cases op with
  |load t x=>
   simp only[g9] at h⊢
   cases hs:ge as x with
   |none=>rfl
   |some l=>
    rw[hs] at h
    simp only at h⊢
    cases us with
    |nil=>rfl
    |cons a l=>
     cases l with
     |nil=>
      cases hb:rj as x a with
      |true=>
       simp only[hb] at h⊢
       exact gQ he h
      |false=>simp only[hb]
     |cons _ _=>rfl
  |_=>rfl
theorem nc {t:TypeId} {dst:Option Tmp} {M:ah} {K:AV->ah->Prop} (h:iy tt t dst M K):∃d i,dst=some d/\tt.find t=some i/\M d=none/\K (.ptr d 0) (M.set d (.box t (i.zero.map cP))):=by
 unfold iy at h
 split at h
 ·rename_i d i ht
  split at h
  ·rename_i hd
   rw[dw] at h
   exact⟨d,i,rfl,ht,hd,h⟩
  ·exact h.elim
 ·exact h.elim
theorem ui {t:TypeId} {dst:Option Tmp} {M:ah} {K:AV->ah->Prop} {d:Nat} {i:TI} (h1:dst=some d) (h2:tt.find t=some i) (h3:M d=none) (hk:K (.ptr d 0) (M.set d (.box t (i.zero.map cP)))):iy tt t dst M K:=by
 subst h1
 unfold iy
 simp only[h2,h3,dw]
 exact hk
def DM (T:ah->(AV->ah->Prop)->Prop) (M:ah) (K:AV->ah->Prop):Prop:=∃d v B,M d=none/\K v (M.set d B)/\∀(M':ah) (K':AV->ah->Prop),M' d=none->K' v (M'.set d B)->T M' K'
theorem AP {t:TypeId} {us:List AV} {dst:Option Tmp} {M:ah} {K:AV->ah->Prop} (h:lh tt t us dst M K):DM (fun M K=>lh tt t us dst M K) M K:=by
 unfold lh at h
 split at h
 ·rename_i d n c _ _ e _ ht
  split at h
  ·rename_i i hd hi
   split at h
   ·rename_i m hz hb
    rw[jl] at h
    obtain⟨h1,α,dd,enc,z,h2,hk⟩:=h
    refine⟨d,_,_,hd,hk,fun M' K' hd' hk'=>?_⟩
    unfold lh
    simp only[ht,hd',hi,hz,hb]
    rw[jl]
    rw[hb] at h1
    exact⟨h1,α,dd,enc,z,h2,hk'⟩
   ·exact h.elim
  ·exact h.elim
 ·exact h.elim
theorem rn:∀{cs:List AV},xp cs=true->∀u∈cs,yI u=true
 |[],_,u,hu=>by cases hu
 |c::cs,h,u,hu=>by
  simp only[xp] at h
  split at h
  ·rename_i hc
   rcases List.mem_cons.1 hu with e|hu
   ·rw[e];exact hc
   ·exact rn h u hu
  ·cases h
theorem ph:∀(cs:List AV) (M:ah) (K:List AV->ah->Prop),(∀u∈cs,yI u=true)->dp cs M K=K cs M
 |[],_,_,_=>rfl
 |u::us,M,K,h=>by
  have hu:=h u (List.mem_cons_self ..)
  cases u with
  |row a b c=>cases hu
  |_=>simp only[dp];rw[ph us _ _ fun x hx=>h x (List.mem_cons_of_mem _ hx)]
theorem ij:∀(css:List (List AV)) (M:ah) (K:List (List AV)->ah->Prop),(∀cs∈css,∀u∈cs,yI u=true)->iz css M K=K css M
 |[],_,_,_=>rfl
 |cs::r,M,K,h=>by
  simp only[iz]
  rw[ph cs M _ (h cs (List.mem_cons_self ..)),ij r M _ fun x hx=>h x (List.mem_cons_of_mem _ hx)]
theorem uj {u:AV} {cs:List AV} (hu:E8 u=true) (h1:bK u=some cs):∀x∈cs,yI x=true:=by
 cases u with
 |agg l=>simp only[bK,Option.some.injEq] at h1;subst h1;exact rn hu
 |row a b c=>cases hu
 |top=>cases h1
 |tup l=>cases h1
 |val v=>
  simp only[bK] at h1
  split at h1
  ·simp only[Option.some.injEq] at h1;subst h1;intro x hx;rw[List.mem_singleton] at hx;subst hx;rfl
  ·cases h1
 |_=>simp only[bK,Option.some.injEq] at h1;subst h1;intro x hx;rw[List.mem_singleton] at hx;subst hx;rfl
theorem fQ {n:Nat}:∀{us:List AV} {css:List (List AV)},kT us=true->eA n us=some css->∀cs∈css,∀u∈cs,yI u=true
 |[],css,_,h=>by
  simp only[eA,Option.some.injEq] at h
  subst h
  intro cs hcs
  cases hcs
 |u::us,css,hf,h=>by
  simp only[kT] at hf
  split at hf
  ·rename_i hu
   simp only[eA] at h
   split at h
   ·rename_i cs0 r0 h1 h2
    split at h
    ·simp only[Option.some.injEq] at h
     subst h
     intro cs hcs
     rcases List.mem_cons.1 hcs with e|hcs
     ·subst e
      exact uj hu h1
     ·exact fQ hf h2 cs hcs
    ·cases h
   ·cases h
  ·cases hf
theorem set_set (M:ah) (d:Nat) (B C:bj):(M.set d B).set d C=M.set d C:=by
 funext x
 by_cases e:x=d
 ·subst e;rw[ah.set_eq,ah.set_eq]
 ·rw[ah.set_ne _ _ e,ah.set_ne _ _ e,ah.set_ne _ _ e]
theorem uk {d:Nat} {n sz:Nat} {t:TypeId} {α:Type} {dd:α} {enc:α->List AV} {l:List α} {M:ah} {K:AV->ah->Prop} (h:nT (.row d n sz) (M.set d (.row t dd enc l)) K):
  ∃v B,K v (M.set d B)/\∀(M':ah) (K':AV->ah->Prop),K' v (M'.set d B)->nT (.row d n sz) (M'.set d (.row t dd enc l)) K':=by
 rcases h.out with h|h
 ·exact⟨_,_,h,fun M' K' hk=>jN hk⟩
 ·simp only[dp,ah.set_eq,set_set] at h
  refine⟨_,_,h,fun M' K' hk=>dF ?_⟩
  simp only[dp,ah.set_eq,set_set]
  exact hk
theorem yO {t:TypeId} {len:Nat} {is:List Nat} {us:List AV} {dst:Option Tmp} {M:ah} {K:AV->ah->Prop} (hf:kT us=true) (h:eh tt t len is us dst M (rk (some r) K)):DM (fun M K=>eh tt t len is us dst M (rk (some r) K)) M K:=by
 unfold eh at h
 split at h
 ·rename_i d _ _ e _ ht
  split at h
  ·rename_i i hi
   split at h
   ·rename_i css0 c1 c2 c3 c4
    rw[ij css0 M _ (fQ hf c4)] at h
    split at h
    ·rename_i hd
     split at h
     ·rename_i hp
      split at h
      ·rename_i ns hn
       obtain⟨v,B,hk,back⟩:=uk h
       refine⟨d,v,B,hd,hk,fun M' K' hd' hk'=>?_⟩
       unfold eh
       simp only[ht,hi,c1,c2,c3,c4]
       rw[ij css0 M' _ (fQ hf c4)]
       simp only[hd',hp,hn]
       exact back M' K' hk'
      ·rename_i hn
       rw[gK] at h
       obtain⟨α,dd,enc,l,h1,h⟩:=h
       obtain⟨v,B,hk,back⟩:=uk h
       refine⟨d,v,B,hd,hk,fun M' K' hd' hk'=>?_⟩
       unfold eh
       simp only[ht,hi,c1,c2,c3,c4]
       rw[ij css0 M' _ (fQ hf c4)]
       simp only[hd',hp,hn]
       rw[gK]
       exact⟨α,dd,enc,l,h1,back M' K' hk'⟩
     ·exact h.elim
    ·exact h.elim
   ·exact h.elim
  ·exact h.elim
 ·exact h.elim
theorem AQ {ts:List TypeId} {α:Type} {dd:α} {enc:α->List AV} {l:List α} {dst:Option Tmp} {M:ah} {K:AV->ah->Prop} (h:jK tt ts [.nilsl, .sl dd enc l] dst M K):DM (fun M K=>jK tt ts [.nilsl, .sl dd enc l] dst M K) M K:=by
 unfold jK at h
 simp only at h
 unfold fk at h
 split at h
 ·rename_i d t t' s x e
  simp only[List.cons.injEq,and_true] at e
  obtain⟨e1,e2⟩:=e
  subst e1;subst e2
  split at h
  ·rename_i _ _ e _ ht ht' hd
   split at h
   ·rename_i i hi
    split at h
    ·exact h.elim
    ·rename_i m hb
     simp only[sA] at h
     split at h
     ·rename_i hsz
      rw[bA] at h
      obtain⟨h1,hk⟩:=h
      refine⟨d,_,_,hd,hk,fun M' K' hd' hk'=>?_⟩
      unfold jK
      simp only
      unfold fk
      simp only[ht,ht',hd',hi,sA,hsz]
      split
      ·rename_i hb0;rw[hb] at hb0;cases hb0
      ·rw[bA];exact⟨h1,hk'⟩
     ·exact h.elim
   ·exact h.elim
  ·exact h.elim
 ·exact h.elim
theorem sM {o:Oper} (hm:DK tt r o.op=true) {us:List AV} {M:ah} {K:AV->ah->Prop} (h:bf P tt (some r) o us M K):DM (fun M K=>bf P tt (some r) o us M K) M K:=by
 unfold bf at h⊢
 cases ho:o.op with
 |alloc t=>
  rw[ho] at h
  simp only at h⊢
  obtain⟨d,i,h1,h2,h3,hk⟩:=nc h
  exact⟨d,_,_,h3,hk,fun M' K' hd' hk'=>ui h1 h2 hd' hk'⟩
 |makeSlice t x y=>
  rw[ho] at h
  simp only at h⊢
  exact AP h
 |buildSlice t len ps=>
  rw[ho] at h hm
  have hs:(match wl r with|true=>true|false=>sK tt t)=true:=hm
  simp only[m8,hs] at h⊢
  cases hf:kT us with
  |true=>
   rw[hf] at h
   exact yO hf h
  |false=>rw[hf] at h;exact h.elim
 |call c=>
  rw[ho] at h hm
  obtain⟨callee,args,tys⟩:=c
  cases callee with
  |builtin b=>
   cases b with
   |append=>
    simp only[DK,Bool.and_eq_true] at hm
    have hr:r= .fresh:=by cases r<;>first|rfl|(exact absurd hm.1 (by simp[bS]))
    subst hr
    simp only[wm,hm.2] at h⊢
    split at h
    ·exact AQ h
    ·exact h.elim
   |_=>cases hm
  |_=>cases hm
 |_=>rw[ho] at hm;cases hm
theorem ro {as:List (Nat×Nat)} {x:Operand} {a:AV} (h:rj as x a=true):∃ℓ o,a= .ptr ℓ o/\ge as x=some ℓ:=by
 cases a with
 |ptr ℓ o=>
  simp only[rj] at h
  cases hs:ge as x with
  |none=>rw[hs] at h;cases h
  |some ℓ'=>
   rw[hs] at h
   exact⟨ℓ,o,rfl,by rw[Nat.eq_of_beq_eq_true h]⟩
 |_=>cases h
theorem mc {as:List (Nat×Nat)} {t:TypeId} {p:Operand} {us:List AV} {M:ah} {K:ah->Prop} (h:dU (some (.boxes as)) tt t p us M K):∃ℓ B,ge as p=some ℓ/\K (M.set ℓ B)/\∀(M':ah) (K':ah->Prop),M' ℓ=M ℓ->K' (M'.set ℓ B)->dU (some (.boxes as)) tt t p us M' K':=by
 unfold dU at h
 simp only at h
 split at h
 ·rename_i a x
  split at h
  ·rename_i hb
   obtain⟨ℓ,o,rfl,hs⟩:=ro hb
   unfold dQ at h
   simp only at h
   split at h
   ·rename_i cs i hcs ht
    split at h
    ·rename_i hsz
     split at h
     ·rename_i bt cells hM
      split at h
      ·rename_i h1 h2
       rw[dw] at h
       refine⟨ℓ,_,hs,h,fun M' K' hM' hK'=>?_⟩
       unfold dU
       simp only[hb]
       unfold dQ
       simp only[hcs,ht,hsz,hM',hM,h1,h2]
       rw[dw]
       exact hK'
      ·exact h.elim
     ·exact h.elim
    ·exact h.elim
   ·exact h.elim
  ·exact h.elim
 ·exact h.elim
theorem ul {as:List (Nat×Nat)} {t:TypeId} {x:Operand} {us:List AV} {M:ah} {ℓ ℓ':Nat} {B:bj} (hs:ge as x=some ℓ') (hne:ℓ'≠ℓ):g9 (some (.boxes as)) tt (.load t x) us (M.set ℓ B)=g9 (some (.boxes as)) tt (.load t x) us M:=by
 simp only[g9,hs]
 cases us with
 |nil=>rfl
 |cons a l=>
  cases l with
  |cons _ _=>rfl
  |nil=>
   simp only
   cases hb:rj as x a with
   |false=>rfl
   |true=>
    obtain⟨k,o,rfl,hk⟩:=ro hb
    rw[hs] at hk
    cases hk
    show fh tt t (M.set ℓ B) (.ptr ℓ' o)=fh tt t M (.ptr ℓ' o)
    unfold fh
    simp only
    rw[ah.set_ne _ _ hne]
theorem AR {x y:Oper} (ho:fm r=true->cls x.op≠2/\cls y.op≠2) (hc:(ly tt r x.op y.op||(match gp r x.op,gp r y.op with
  |0,_=>true
  |_,0=>true
  |1,1=>true
  |1,2=>true
  |2,1=>true
  |_,_=>false)||(pe r&&(decide (cls x.op=1)&&ii y.op||ii x.op&&decide (cls y.op=1)))||yM r x.op y.op)=true) (ux uy:List AV) (M:ah) (K:AV->AV->ah->Prop)
  (h:bf P tt (some r) x ux M fun u M1=>bf P tt (some r) y uy M1 fun v M2=>K u v M2):bf P tt (some r) y uy M fun v M2=>bf P tt (some r) x ux M2 fun u M1=>K u v M1:=by
 have rx:cls x.op=0\/cls x.op=1->∀M K,bf P tt (some r) x ux M K=fg (g9 (some r) tt x.op ux M) fun u=>K u M:=fun h M K=>na h r ux M K
 have ry:cls y.op=0\/cls y.op=1->∀M K,bf P tt (some r) y uy M K=fg (g9 (some r) tt y.op uy M) fun u=>K u M:=fun h M K=>na h r uy M K
 have RR:(cls x.op=0\/cls x.op=1)->(cls y.op=0\/cls y.op=1)->bf P tt (some r) y uy M fun v M2=>bf P tt (some r) x ux M2 fun u M1=>K u v M1:=by
  intro hx hy
  rw[rx hx] at h
  rw[ry hy]
  obtain⟨u,hu,h⟩:=fF h
  rw[ry hy] at h
  obtain⟨v,hv,h⟩:=fF h
  refine cC hv fun v' e=>?_
  subst e
  rw[rx hx]
  refine cC hu fun u' e=>?_
  subst e
  exact h
 have fresh0:∀op,bS r=true->(cls op=0\/cls op=1)->gp r op=0:=by
  intro op hr h
  have hr:r= .fresh:=by cases r<;>first|rfl|cases hr
  subst hr
  cases op with
  |load t p=>rfl
  |call c=>
   rcases h with h|h
   ·exact h
   ·obtain⟨callee,args,tys⟩:=c
    cases callee with
    |builtin b=>cases b<;>simp[cls] at h
    |_=>simp[cls] at h
  |_=>first|rfl|(rcases h with h|h<;>simp[cls] at h)
 have RC:(cls x.op=0\/cls x.op=1)->cls y.op=2->bf P tt (some r) y uy M fun v M2=>bf P tt (some r) x ux M2 fun u M1=>K u v M1:=by
  intro hx hy
  rw[rx hx] at h
  obtain⟨u,hu,h⟩:=fF h
  rcases pf (P:=P) (tt:=tt) (r:=r) hy uy with hf|⟨f,l,hf⟩
  ·rw[hf] at h;exact h.elim
  ·rw[hf] at h⊢
   by_cases hr:bS r=true
   ·rw[ie hr] at h⊢
    refine h.mono fun v M1 hk=>?_
    rw[rx hx,xt r (fresh0 _ hr hx) ux M1 M]
    refine cC hu fun u' e=>?_
    subst e
    exact hk
   have hr:bS r=false:=by cases hh:bS r<;>first|rfl|exact absurd hh hr
   have hro:fm r=false:=by cases hh:fm r<;>first|rfl|exact absurd hy (ho hh).2
   rw[ig hr hro] at h⊢
   simp only[d6] at*
   obtain⟨R,n,h1,h2,h3,h4⟩:=h
   refine⟨R,n,h1,h2,h3,fun v hv=>?_⟩
   show bf P tt (some r) x ux M fun u M1=>K u v M1
   rw[rx hx]
   refine cC hu fun u' e=>?_
   subst e
   exact h4 v hv
 have CR:cls x.op=2->(cls y.op=0\/cls y.op=1)->bf P tt (some r) y uy M fun v M2=>bf P tt (some r) x ux M2 fun u M1=>K u v M1:=by
  intro hx hy
  rw[ry hy]
  rcases pf (P:=P) (tt:=tt) (r:=r) hx ux with hf|⟨f,l,hf⟩
  ·rw[hf] at h;exact h.elim
  ·rw[hf] at h
   by_cases hr:bS r=true
   ·rw[ie hr] at h
    obtain⟨R,n,lb,L2,u',hs,ha,hb,hf2,hr2,hk⟩:=h.out
    rw[ry hy,xt r (fresh0 _ hr hy) uy _ M] at hk
    obtain⟨v,hv,hk⟩:=fF hk
    refine cC hv fun v' e=>?_
    subst e
    rw[hf,ie hr]
    exact⟨R,n,lb,L2,u',hs,ha,hb,hf2,hr2,hk⟩
   have hr:bS r=false:=by cases hh:bS r<;>first|rfl|exact absurd hh hr
   have hro:fm r=false:=by cases hh:fm r<;>first|rfl|exact absurd hx (ho hh).1
   rw[ig hr hro] at h
   rw[d6] at h
   obtain⟨R,n,h1,h2,⟨u0,hu0⟩,h4⟩:=h
   have h0:bf P tt (some r) y uy M fun v M2=>K u0 v M2:=h4 u0 hu0
   rw[ry hy] at h0
   obtain⟨v,hv,_⟩:=fF h0
   refine cC hv fun v' e=>?_
   subst e
   rw[hf,ig hr hro]
   rw[d6]
   refine⟨R,n,h1,h2,⟨u0,hu0⟩,fun u hu=>?_⟩
   have h5:bf P tt (some r) y uy M fun v M2=>K u v M2:=h4 u hu
   rw[ry hy] at h5
   obtain⟨v2,hv2,h6⟩:=fF h5
   rw[FN hv hv2]
   exact h6
 have NX:gp r x.op=0->cls y.op=3->bf P tt (some r) y uy M fun v M2=>bf P tt (some r) x ux M2 fun u M1=>K u v M1:=by
  intro hx hy
  rw[rx (iB hx)] at h
  obtain⟨u,hu,h⟩:=fF h
  obtain⟨p,hp⟩:=sL (P:=P) (tt:=tt) hy r uy M
  obtain⟨⟨v,M2⟩,h1,h2⟩:=(hp fun z=>K u z.1 z.2).1 h
  refine(hp fun z=>bf P tt (some r) x ux z.2 fun u M1=>K u z.1 M1).2 ⟨(v,M2),h1,?_⟩
  show bf P tt (some r) x ux M2 fun u M1=>K u v M1
  rw[rx (iB hx),xt r hx ux M2 M]
  refine cC hu fun u' e=>?_
  subst e
  exact h2
 have XN:cls x.op=3->gp r y.op=0->bf P tt (some r) y uy M fun v M2=>bf P tt (some r) x ux M2 fun u M1=>K u v M1:=by
  intro hx hy
  obtain⟨p,hp⟩:=sL (P:=P) (tt:=tt) hx r ux M
  obtain⟨⟨u,M1⟩,h1,h2⟩:=(hp fun z=>bf P tt (some r) y uy z.2 fun v M2=>K z.1 v M2).1 h
  simp only at h2
  rw[ry (iB hy),xt r hy uy M1 M] at h2
  obtain⟨v,hv,h2⟩:=fF h2
  rw[ry (iB hy)]
  refine cC hv fun v' e=>?_
  subst e
  exact(hp fun z=>K z.1 v' z.2).2 ⟨(u,M1),h1,h2⟩
 have LS:cls x.op=1->ii y.op=true->pe r=true->bf P tt (some r) y uy M fun v M2=>bf P tt (some r) x ux M2 fun u M1=>K u v M1:=by
  intro hx hy hr
  have hr:r= .rows:=by cases r<;>first|rfl|cases hr
  subst hr
  rw[rx (.inr hx)] at h
  obtain⟨u,hu,h⟩:=fF h
  obtain⟨t,p,hop⟩:∃t p,x.op= .load t p:=by
   cases hox:x.op with
   |load t p=>exact⟨t,p,rfl⟩
   |call c=>
    rw[hox] at hx
    obtain⟨callee,args,tys⟩:=c
    cases callee with
    |builtin b=>cases b<;>simp[cls] at hx
    |_=>simp[cls] at hx
   |_=>rw[hox] at hx;simp[cls] at hx
  cases hoy:y.op with
  |store t2 p2 q2=>
   simp only[bf,hoy] at h⊢
   obtain⟨ℓ,rt,α,d,enc,l,l',hl,hK,hback⟩:=pg h
   refine hback _ ?_
   have:=rx (.inr hx) (M.set ℓ (.row rt d enc l')) (fun u M1=>K u (.tup []) M1)
   unfold bf at this
   rw[this,hop,xv hl,<-hop]
   refine cC hu fun u' e=>?_
   subst e
   exact hK
  |_=>rw[hoy] at hy;cases hy
 have SL:ii x.op=true->cls y.op=1->pe r=true->bf P tt (some r) y uy M fun v M2=>bf P tt (some r) x ux M2 fun u M1=>K u v M1:=by
  intro hx hy hr
  have hr:r= .rows:=by cases r<;>first|rfl|cases hr
  subst hr
  rw[ry (.inr hy)]
  obtain⟨t,p,hop⟩:∃t p,y.op= .load t p:=by
   cases hox:y.op with
   |load t p=>exact⟨t,p,rfl⟩
   |call c=>
    rw[hox] at hy
    obtain⟨callee,args,tys⟩:=c
    cases callee with
    |builtin b=>cases b<;>simp[cls] at hy
    |_=>simp[cls] at hy
   |_=>rw[hox] at hy;simp[cls] at hy
  cases hoy:x.op with
  |store t2 p2 q2=>
   have h2:dU (some .rows) tt t2 p2 ux M fun M1=>bf P tt (some .rows) y uy M1 fun v M2=>K (.tup []) v M2:=by
    have:=h
    unfold bf at this
    rw[hoy] at this
    exact this
   obtain⟨ℓ,rt,α,d,enc,l,l',hl,hK,hback⟩:=pg h2
   rw[ry (.inr hy),hop,xv hl,<-hop] at hK
   refine cC hK fun v hv=>?_
   unfold bf
   rw[hoy]
   exact hback _ hv
  |_=>rw[hoy] at hx;cases hx
 have AL:ly tt r x.op y.op=true->bf P tt (some r) y uy M fun v M2=>bf P tt (some r) x ux M2 fun u M1=>K u v M1:=by
  intro hb
  unfold ly at hb
  rw[Bool.and_eq_true] at hb
  obtain⟨hy,hx⟩:=hb
  have ext:∀{d:Nat} {B:bj},M d=none->∀ℓ C,M ℓ=some C->(M.set d B) ℓ=some C:=by
   intro d B hd ℓ C hC
   rw[ah.set_ne _ _ (fun e=>by rw[e,hd] at hC;cases hC)]
   exact hC
  have rd:cls x.op=0\/cls x.op=1->bf P tt (some r) y uy M fun v M2=>bf P tt (some r) x ux M2 fun u M1=>K u v M1:=by
   intro hcx
   rw[rx hcx] at h
   obtain⟨u,hu,h⟩:=fF h
   obtain⟨d,v,B,h3,hk,back⟩:=sM hy h
   refine back M _ h3 ?_
   rw[rx hcx,DL (ext h3) hu]
   refine cC hu fun u' e=>?_
   subst e
   exact hk
  rcases kU x.op with hcx|hcx|hcx|hcx
  ·exact rd (.inl hcx)
  ·exact rd (.inr hcx)
  ·have hcm:gp r x.op=2:=by
    cases r<;>cases hox:x.op<;>first|(rw[hox] at hcx;exact hcx)|(rw[hox] at hcx;simp[cls] at hcx)
   rw[hcm] at hx
   rcases pf (P:=P) (tt:=tt) (r:=r) hcx ux with hf|⟨f,l,hf⟩
   ·rw[hf] at h;exact h.elim
   ·rw[hf] at h
    by_cases hr:bS r=true
    ·rw[ie hr] at h
     obtain⟨R,n,lb,L2,u',hs,ha,hb,hf2,hr2,h0⟩:=h.out
     obtain⟨d,v,B,h3,hk,back⟩:=sM hy h0
     have h4:jM P f l M fun u M1=>M1 d=none/\K u v (M1.set d B):=⟨R,n,lb,L2,u',hs,ha,hb,hf2,hr2,h3,hk⟩
     obtain⟨hd,h5⟩:=h4.beside (K:=fun u M'=>K u v M')
     refine back M _ hd ?_
     rw[hf,ie hr]
     exact h5
    have hr:bS r=false:=by cases hh:bS r<;>first|rfl|exact absurd hh hr
    have hro:fm r=false:=by cases hh:fm r<;>first|rfl|exact absurd hcx (ho hh).1
    have hya:xu y.op=true:=by simpa[hr] using hx
    obtain⟨t,hoy⟩:∃t,y.op= .alloc t:=by
     cases hoy:y.op with
     |alloc t=>exact⟨t,rfl⟩
     |_=>rw[hoy] at hya;cases hya
    have ey:∀M K,bf P tt (some r) y uy M K=iy tt t y.dst M K:=by
     intro M K
     unfold bf
     rw[hoy]
    rw[ey]
    rw[ig hr hro,d6] at h
    obtain⟨R,n,h1,h2,⟨u0,hu0⟩,h4⟩:=h
    have h5:=h4 u0 hu0
    rw[ey] at h5
    obtain⟨d,i,e1,e2,e3,_⟩:=nc h5
    refine ui e1 e2 e3 ?_
    rw[hf,ig hr hro,d6]
    refine⟨R,n,h1,h2,⟨u0,hu0⟩,fun u hu=>?_⟩
    have h6:=h4 u hu
    rw[ey] at h6
    obtain⟨d',i',e1',e2',e3',hk⟩:=nc h6
    rw[e1] at e1';cases e1'
    rw[e2] at e2';cases e2'
    exact hk
  ·have hcm:gp r x.op=3:=by
    cases r<;>cases hox:x.op<;>first|(rw[hox] at hcx;exact hcx)|(rw[hox] at hcx;simp[cls] at hcx)
   rw[hcm] at hx
   obtain⟨d',v',B',f3,h,back'⟩:=sM hx h
   obtain⟨d,v,B,e3,hk,back⟩:=sM hy h
   have hne:d≠d':=fun e=>by subst e;rw[ah.set_eq] at e3;cases e3
   rw[ah.set_ne _ _ hne] at e3
   refine back M _ e3 (back' (M.set d B) _ (by rw[ah.set_ne _ _ (Ne.symm hne)];exact f3) ?_)
   rw[ah.set_comm _ _ _ hne]
   exact hk
 by_cases hbx:yM r x.op y.op=true
 ·cases r with
  |boxes as=>
   simp only[yM,AO] at hbx
   cases hox:x.op with
   |load t1 p1=>
    cases hoy:y.op with
    |load t2 p2=>exact RR (by rw[hox];exact .inr rfl) (by rw[hoy];exact .inr rfl)
    |store t2 p2 q2=>
     rw[hox,hoy] at hbx
     simp only at hbx
     cases h1:ge as p1 with
     |none=>rw[h1] at hbx;cases hbx
     |some l1=>
      rw[rx (by rw[hox];exact .inr rfl)] at h
      obtain⟨u,hu,h⟩:=fF h
      simp only[bf,hoy] at h⊢
      obtain⟨l2,B,h2,hk,back⟩:=mc h
      rw[h1,h2] at hbx
      have hne:l1≠l2:=fun e=>by subst e;simp at hbx
      refine back M _ rfl ?_
      have e:=rx (by rw[hox];exact .inr rfl) (M.set l2 B) (fun u M1=>K u (.tup []) M1)
      unfold bf at e
      rw[e,hox,ul h1 hne,<-hox]
      refine cC hu fun u' e=>?_
      subst e
      exact hk
    |_=>exfalso;rw[hox,hoy] at hbx;simp only at hbx;cases hq:ge as p1<;>rw[hq] at hbx<;>cases hbx
   |store t1 p1 q1=>
    cases hoy:y.op with
    |load t2 p2=>
     rw[hox,hoy] at hbx
     simp only at hbx
     have h':dU (some (.boxes as)) tt t1 p1 ux M fun M1=>bf P tt (some (.boxes as)) y uy M1 fun v M2=>K (.tup []) v M2:=by
      have:=h
      unfold bf at this
      rw[hox] at this
      exact this
     obtain⟨l1,B,h1,hk,back⟩:=mc h'
     cases h2:ge as p2 with
     |none=>rw[h1,h2] at hbx;cases hbx
     |some l2=>
      rw[h1,h2] at hbx
      have hne:l2≠l1:=fun e=>by subst e;simp at hbx
      rw[ry (by rw[hoy];exact .inr rfl),hoy,ul h2 hne,<-hoy] at hk
      rw[ry (by rw[hoy];exact .inr rfl)]
      refine cC hk fun v hv=>?_
      unfold bf
      rw[hox]
      exact back M _ rfl hv
    |store t2 p2 q2=>
     rw[hox,hoy] at hbx
     simp only at hbx
     have h':dU (some (.boxes as)) tt t1 p1 ux M fun M1=>dU (some (.boxes as)) tt t2 p2 uy M1 fun M2=>K (.tup []) (.tup []) M2:=by
      have:=h
      unfold bf at this
      rw[hox,hoy] at this
      exact this
     obtain⟨l1,B1,h1,hk,back1⟩:=mc h'
     obtain⟨l2,B2,h2,hk2,back2⟩:=mc hk
     rw[h1,h2] at hbx
     have hne:l1≠l2:=fun e=>by subst e;simp at hbx
     unfold bf
     rw[hoy]
     simp only
     refine back2 M _ (by rw[ah.set_ne _ _ (Ne.symm hne)]) ?_
     rw[hox]
     simp only
     refine back1 _ _ (by rw[ah.set_ne _ _ hne]) ?_
     rw[ah.set_comm _ _ _ (Ne.symm hne)]
     exact hk2
    |_=>exfalso;rw[hox,hoy] at hbx;simp only at hbx;cases hq:ge as p1<;>rw[hq] at hbx<;>cases hbx
   |_=>exfalso;rw[hox] at hbx;simp only at hbx;cases hbx
  |_=>cases hbx
 have hbx:yM r x.op y.op=false:=by cases hh:yM r x.op y.op<;>first|rfl|exact absurd hh hbx
 rw[hbx,Bool.or_false] at hc
 by_cases hal:ly tt r x.op y.op=true
 ·exact AL hal
 have hal:ly tt r x.op y.op=false:=by cases hh:ly tt r x.op y.op<;>first|rfl|exact absurd hh hal
 rw[hal,Bool.false_or] at hc
 by_cases hsp:(pe r&&(decide (cls x.op=1)&&ii y.op||ii x.op&&decide (cls y.op=1)))=true
 ·simp only[Bool.and_eq_true,Bool.or_eq_true,decide_eq_true_eq] at hsp
  rcases hsp.2 with h2|h2
  ·exact LS h2.1 h2.2 hsp.1
  ·exact SL h2.1 h2.2 hsp.1
 replace hc:(match gp r x.op,gp r y.op with
  |0,_=>true
  |_,0=>true
  |1,1=>true
  |1,2=>true
  |2,1=>true
  |_,_=>false)=true:=by
  rw[Bool.or_eq_true] at hc
  exact hc.resolve_right hsp
 have cc:∀op,gp r op=0\/gp r op=1\/gp r op=2\/gp r op=3:=by
  intro op
  have:=kU op
  cases r with
  |boxes as=>
   cases op with
   |load t x=>
    simp only[gp]
    cases ge as x with
    |none=>exact .inl rfl
    |some _=>exact .inr (.inl rfl)
   |_=>exact this
  |_=>cases op<;>first|exact .inl rfl|exact this
 rcases cc x.op with hx|hx|hx|hx<;>rcases cc y.op with hy|hy|hy|hy<;>
  first
   |exact RR (iB hx) (iB hy)
   |exact RR (iB hx) (.inr (f7 hy))
   |exact RR (.inr (f7 hx)) (iB hy)
   |exact RR (.inr (f7 hx)) (.inr (f7 hy))
   |exact RC (iB hx) (f7 hy)
   |exact RC (.inr (f7 hx)) (f7 hy)
   |exact CR (f7 hx) (iB hy)
   |exact CR (f7 hx) (.inr (f7 hy))
   |exact NX hx (f7 hy)
   |exact XN (f7 hx) hy
   |(rw[hx,hy] at hc;simp at hc)
theorem pi {o:Oper} (hno:fm r=true->cls o.op≠2) (us:List AV) (M:ah) (h:bf P tt (some r) o us M fun _ _=>False):False:=by
 rcases kU o.op with hc|hc|hc|hc
 ·rw[na (.inl hc)] at h;obtain⟨_,_,h⟩:=fF h;exact h
 ·rw[na (.inr hc)] at h;obtain⟨_,_,h⟩:=fF h;exact h
 ·rcases pf (P:=P) (tt:=tt) (r:=r) hc us with hf|⟨f,l,hf⟩
  ·rw[hf] at h;exact h
  ·rw[hf] at h
   by_cases hr:bS r=true
   ·rw[ie hr] at h
    obtain⟨R,n,lb,L2,u',hs,ha,hb,hf2,hr2,hk⟩:=h.out
    exact hk
   have hr:bS r=false:=by cases hh:bS r<;>first|rfl|exact absurd hh hr
   have hro:fm r=false:=by cases hh:fm r<;>first|rfl|exact absurd hc (hno hh)
   rw[ig hr hro] at h
   rw[d6] at h
   obtain⟨R,n,h1,h2,⟨u0,hu0⟩,h4⟩:=h
   exact h4 u0 hu0
 ·obtain⟨p,hp⟩:=sL (P:=P) (tt:=tt) hc r us M
  obtain⟨_,_,h⟩:=(hp fun _=>False).1 h
  exact h
theorem gB {o:Oper} {us:List AV} {M:ah} {K K':AV->ah->Prop} (h:bf P tt (some r) o us M K) (hk:∀u M',K u M'->K' u M'):bf P tt (some r) o us M K':=by
 rcases kU o.op with hc|hc|hc|hc
 ·rw[na (.inl hc)] at*;exact cC h fun u=>hk u M
 ·rw[na (.inr hc)] at*;exact cC h fun u=>hk u M
 ·rcases pf (P:=P) (tt:=tt) (r:=r) hc us with hf|⟨f,l,hf⟩
  ·rw[hf] at h;exact h.elim
  ·rw[hf] at*
   by_cases hr:bS r=true
   ·rw[ie hr] at h⊢
    exact h.mono hk
   have hr:bS r=false:=by cases hh:bS r<;>first|rfl|exact absurd hh hr
   by_cases hro:fm r=true
   ·rw[xo hro] at h⊢
    exact h.mono hk
   have hro:fm r=false:=by cases hh:fm r<;>first|rfl|exact absurd hh hro
   rw[ig hr hro] at h⊢
   simp only[d6] at*
   obtain⟨R,n,h1,h2,h3,h4⟩:=h
   exact⟨R,n,h1,h2,h3,fun u hu=>hk u M (h4 u hu)⟩
 ·obtain⟨p,hp⟩:=sL (P:=P) (tt:=tt) hc r us M
  obtain⟨z,h1,h2⟩:=(hp fun z=>K z.1 z.2).1 h
  exact(hp fun z=>K' z.1 z.2).2 ⟨z,h1,hk _ _ h2⟩
theorem cQ {o:Oper} {fr:List AV} {M:ah} {K K':List AV->ah->Prop} (h:bJ P tt (some r) all o fr M K) (hk:∀f M',K f M'->K' f M'):bJ P tt (some r) all o fr M K':=by
 rw[bB] at*
 split at h
 ·exact gB h fun u M'=>hk _ _
 ·exact hk _ _ h
 ·exact h
theorem pj {x y:Oper} (hc:nU tt r all x y=true) (ho:fm r=true):cls x.op≠2/\cls y.op≠2:=by
 unfold nU at hc
 rw[Bool.and_eq_true,Bool.and_eq_true] at hc
 have h:=hc.1.2
 rw[ho] at h
 constructor
 ·intro e
  unfold ow at h
  rw[e] at h
  simp at h
 ·intro e
  unfold ow at h
  rw[e] at h
  simp at h
theorem rq {x y:Oper} (hc:nU tt r all x y=true) (fr:List AV) (M:ah) (K:List AV->ah->Prop)
  (h:bJ P tt (some r) all x fr M fun fr1 M1=>bJ P tt (some r) all y fr1 M1 K):bJ P tt (some r) all y fr M fun fr2 M2=>bJ P tt (some r) all x fr2 M2 K:=by
 have hno:=pj hc
 unfold nU at hc
 rw[Bool.and_eq_true,Bool.and_eq_true] at hc
 obtain⟨⟨hap,_⟩,hcl⟩:=hc
 obtain⟨a1,a2,a3⟩:=ws hap
 have a4:∀d,y.dst=some d->x.dst≠some d:=fun d hd he=>a2 d he hd
 rw[bB] at h
 cases hgx:gv all fr x.guard with
 |none=>rw[hgx] at h;exact h.elim
 |some bx=>
  rw[hgx] at h
  cases bx with
  |false=>
   simp only at h
   rw[nV a1 a2] at h
   refine(?_:bJ P tt (some r) all y fr M fun fr2 M2=>bJ P tt (some r) all x fr2 M2 K)
   rw[bB] at h⊢
   split at h
   ·refine gB h fun v M' hv=>?_
    rw[bB,(iT (fr:=fr) a3 v).2,hgx]
    exact hv
   ·rw[bB,(iT (fr:=fr) a3 _).2,hgx]
    exact h
   ·exact h
  |true=>
   simp only at h
   have h':bf P tt (some r) x ((aJ x.op).map (cm fr)) M fun u M1=>bJ P tt (some r) all y fr M1 fun fr2 M2=>K (ca fr2 x.dst u) M2:=
    gB h fun u M1 hh=>(nV a1 a2 (some r) fr u M1 K).1 hh
   rw[bB]
   have hx:∀v M2 K,bJ P tt (some r) all x (ca fr y.dst v) M2 K↔bf P tt (some r) x ((aJ x.op).map (cm fr)) M2 fun u M1=>K (ca (ca fr y.dst v) x.dst u) M1:=by
    intro v M2 K
    rw[bB,(iT (fr:=fr) a3 v).2,hgx,(iT (fr:=fr) a3 v).1]
   cases hgy:gv all fr y.guard with
   |none=>
    exfalso
    refine pi (fun hh=>(hno hh).1) _ _ (gB h' fun u M1 hh=>?_)
    rw[bB,hgy] at hh
    exact hh
   |some bb=>
    cases bb with
    |false=>
     simp only
     rw[hx]
     refine gB h' fun u M1 hh=>?_
     rw[bB,hgy] at hh
     exact hh
    |true=>
     simp only
     simp only[hx]
     refine AR (x:=x) (y:=y) hno hcl _ _ M (fun u v M'=>K (ca (ca fr y.dst v) x.dst u) M') (gB h' fun u M1 hh=>?_)
     rw[bB,hgy] at hh
     exact hh
end
end
section
def ll:Nat->List Oper->Nat->Nat->Bool
 |0,_,_,_=>false
 |n+1,all,i,j=>match all[j]? with
  |some o=>o.after.toList.any fun e=>Region.binds .any e&&(decide (e.on=i)||ll n all i e.on)
  |none=>false
def pk:List Oper->Nat->Bool
 |[],_=>true
 |o::r,k=>o.after.toList.all (fun e=>!(Region.binds .any e)||decide (e.on<k))&&pk r (k+1)
def fo (tt:TT) (r:aP) (all:List Oper):Bool:=
 pk all 0&&(List.range all.length).all fun i=>(List.range all.length).all fun j=>decide (j<=i)||
  (match all[i]?,all[j]? with|some x,some y=>nU tt r all x y|_,_=>false)||ll all.length all i j
section
variable {P:Program} {tt:TT} {all:List Oper} {K:List AV->ah->Prop} {r:aP}
theorem nf:∀(l:List Oper) (k:Nat),pk l k=true->∀(i:Nat) o,l[i]? =some o->∀e∈o.after,Region.binds .any e=true->e.on<k+i
 |[],_,_,i,o,h=>by simp at h
 |x::r,k,h,i,o,hi=>by
  simp only[pk,Bool.and_eq_true] at h
  intro e he hb
  cases i with
  |zero=>
   simp at hi;subst hi
   have:=List.all_eq_true.1 h.1 e (by simpa using he)
   rw[hb] at this
   simpa using this
  |succ i=>
   have:=nf r (k+1) h.2 i o (by simpa using hi) e he hb
   omega
def FO (P:Program) (tt:TT) (r:aP) (all:List Oper) (i:Nat) (fr:List AV) (M:ah) (K:List AV->ah->Prop):Prop:=
 match all[i]? with
 |none=>K fr M
 |some o=>bJ P tt (some r) all o fr M K
def iC (P:Program) (tt:TT) (r:aP) (all:List Oper) (K:List AV->ah->Prop):Nat->Array Bool->List AV->ah->Prop
 |0,listed,fr,M=>Region.ready .any all.toArray listed=[]/\K fr M
 |fuel+1,listed,fr,M=>(Region.ready .any all.toArray listed=[]->K fr M)/\
  ∀i∈Region.ready .any all.toArray listed,FO P tt r all i fr M (iC P tt r all K fuel (listed.setIfInBounds i true))
theorem rr (hT:aW P tt=true) {F:ae} {Q:Exit->Act->World->Prop}:∀(fuel:Nat) (listed:Array Bool) (S:ae) (ρ:aw) (w:World) (a:Act) (fr:List AV) (M:ah),iC P tt r all K fuel listed fr M->az S F ρ M w->dK S ρ a fr->
  (∀a' w',cy S F ρ w K a' w'->Q .normal a' w')->wpAny P .any all.toArray Q fuel listed a w
 |0,listed,S,ρ,w,a,fr,M,h,hM,hF,hQ=>⟨h.1,hQ _ _ ⟨fr,M,S,ρ,h.2,ae.le_refl _,aw.le_refl _,hM,hF,bX.refl _⟩⟩
 |fuel+1,listed,S,ρ,w,a,fr,M,h,hM,hF,hQ=>by
  refine⟨fun h0=>hQ _ _ ⟨fr,M,S,ρ,h.1 h0,ae.le_refl _,aw.le_refl _,hM,hF,bX.refl _⟩,fun i hi=>?_⟩
  have hs:=h.2 i hi
  unfold FO at hs
  unfold wpOp
  obtain⟨_,o,ho,_⟩:=mem_ready.1 hi
  have ho':all[i]? =some o:=by simpa using ho
  rw[ho'] at hs
  rw[ho]
  simp only at hs⊢
  have hk:=f4 (Q:=Q) hT hs hM hF
  have next:∀a' w',cy S F ρ w (iC P tt r all K fuel (listed.setIfInBounds i true)) a' w'->wpAny P .any all.toArray Q fuel (listed.setIfInBounds i true) a' w':=by
   rintro a' w' ⟨fr',M',S',ρ',hk,h1,h2,h3,h4,h5⟩
   exact rr hT fuel _ S' ρ' w' a' fr' M' hk h3 h4 fun a'' w'' h'=>hQ _ _ (h'.trans h1 h2 h5)
  split
  ·rename_i hw
   rw[if_pos hw] at hk
   exact .inl (Oper.wp_mono next hk)
  ·rename_i hw
   rw[if_neg hw] at hk
   exact next _ _ hk
def ju (all:List Oper) (listed:Array Bool):Prop:=
 listed.size=all.length/\∀(j:Nat) o,all[j]? =some o->listed.getD j true=true->∀e∈o.after,Region.binds .any e=true->listed.getD e.on false=true
theorem km {listed:Array Bool} (hc:ju all listed):∀(n i j:Nat),ll n all i j=true->(∀o,all[j]? =some o->∀e∈o.after,Region.binds .any e=true->listed.getD e.on false=true)->listed.getD i false=true
 |0,i,j,h,_=>by simp[ll] at h
 |n+1,i,j,h,hj=>by
  simp only[ll] at h
  split at h
  ·rename_i o ho
   obtain⟨e,he,hb⟩:=List.any_eq_true.1 h
   rw[Bool.and_eq_true,Bool.or_eq_true] at hb
   have hl:=hj o ho e (by simpa using he) hb.1
   rcases hb.2 with h1|h1
   ·have:e.on=i:=by simpa using h1
    rw[<-this];exact hl
   ·refine km hc n i e.on h1 fun o' ho' e' he' hb'=>hc.2 e.on o' ho' ?_ e' he' hb'
    have hlt:e.on<listed.size:=by rw[hc.1];exact(List.getElem?_eq_some_iff.1 ho').1
    simpa[hlt] using hl
  ·simp at h
theorem jv {listed:Array Bool} (hc:ju all listed) {j:Nat} (hj:j∈Region.ready .any all.toArray listed):ju all (listed.setIfInBounds j true):=by
 refine⟨by simp[hc.1],fun i o hi hl e he hb=>?_⟩
 obtain⟨_,o',ho',hall⟩:=mem_ready.1 hj
 by_cases hij:i=j
 ·subst hij
  have:o'=o:=by
   have h1:all.toArray[i]? =some o:=by simpa using hi
   rw[ho'] at h1;injection h1
  subst this
  exact getD_set_true (hall e he hb)
 ·rw[getD_set_ne true (Ne.symm hij)] at hl
  exact getD_set_true (hc.2 i o hi hl e he hb)
theorem pl {o:Oper} (hno:fm r=true->cls o.op≠2) {fr:List AV} {M:ah} (h:bJ P tt (some r) all o fr M fun _ _=>False):False:=by
 rw[bB] at h
 split at h
 ·exact pi hno _ _ h
 ·exact h
 ·exact h
theorem rA (hB:fo tt r all=true) {k j:Nat} {x:Oper} (hx:all[k]? =some x) {listed:Array Bool} (hc:ju all listed) (hpre:∀m,m<k->listed.getD m true=true) (hk:k∈Region.ready .any all.toArray listed)
  (hj:j∈Region.ready .any all.toArray listed) (hjk:j≠k):∃y,all[j]? =some y/\k<j/\nU tt r all x y=true:=by
 obtain⟨hjun,y,hy,hall⟩:=mem_ready.1 hj
 have hy':all[j]? =some y:=by simpa using hy
 have hklt:k<j:=by
  rcases Nat.lt_or_ge k j with h|h
  ·exact h
  ·exfalso
   have:=hpre j (by omega)
   rw[this] at hjun;cases hjun
 have hkun:=(mem_ready.1 hk).1
 have hlen:=(List.getElem?_eq_some_iff.1 hx).1
 have hjlen:=(List.getElem?_eq_some_iff.1 hy').1
 refine⟨y,hy',hklt,?_⟩
 unfold fo at hB
 rw[Bool.and_eq_true] at hB
 have h1:=List.all_eq_true.1 hB.2 k (List.mem_range.2 hlen)
 have h2:=List.all_eq_true.1 h1 j (List.mem_range.2 hjlen)
 rw[hx,hy',Bool.or_eq_true,Bool.or_eq_true] at h2
 rcases h2 with (h2|h2)|h2
 ·simp at h2;omega
 ·exact h2
 ·exfalso
  have:=km hc _ k j h2 (fun o ho e he hb=>by
   rw[hy'] at ho;cases ho;exact hall e he hb)
  have hks:k<listed.size:=by rw[hc.1];exact hlen
  simp[hks] at this hkun
  rw[this] at hkun;cases hkun
theorem wt (hB:fo tt r all=true) {k:Nat} {x:Oper} (hx:all[k]? =some x):∀(fuel:Nat) (listed:Array Bool) (fr:List AV) (M:ah),ju all listed->(∀m,m<k->listed.getD m true=true)->
  k∈Region.ready .any all.toArray listed->bJ P tt (some r) all x fr M (iC P tt r all K fuel (listed.setIfInBounds k true))->iC P tt r all K (fuel+1) listed fr M:=by
 intro fuel
 induction fuel with
 |zero=>
  intro listed fr M hc hpre hk H
  refine⟨fun h=>(by rw[h] at hk;cases hk),fun j hj=>?_⟩
  by_cases hjk:j=k
  ·subst hjk
   unfold FO
   rw[hx]
   exact H
  ·exfalso
   obtain⟨y,_,_,hcomm⟩:=rA hB hx hc hpre hk hj hjk
   refine pl (fun ho=>(pj hcomm ho).1) (cQ H fun f M' h=>?_)
   have:=ready_mono hj hjk
   rw[h.1] at this
   cases this
 |succ fuel ih=>
  intro listed fr M hc hpre hk H
  refine⟨fun h=>(by rw[h] at hk;cases hk),fun j hj=>?_⟩
  by_cases hjk:j=k
  ·subst hjk
   unfold FO
   rw[hx]
   exact H
  ·obtain⟨y,hy',hklt,hcomm⟩:=rA hB hx hc hpre hk hj hjk
   unfold FO
   rw[hy']
   have H2:=cQ H fun f M' (h:iC P tt r all K (fuel+1) (listed.setIfInBounds k true) f M')=>h.2 j (ready_mono hj hjk)
   have H3:bJ P tt (some r) all x fr M fun f M'=>bJ P tt (some r) all y f M' (iC P tt r all K fuel ((listed.setIfInBounds k true).setIfInBounds j true)):=
    cQ H2 fun f M' h=>by unfold FO at h;rw[hy'] at h;exact h
   have H4:=rq hcomm fr M _ H3
   refine cQ H4 fun f M' h=>?_
   refine ih (listed.setIfInBounds j true) f M' (jv hc hj) (fun m hm=>by rw[getD_set_ne true (by omega)];exact hpre m hm) (ready_mono hk (fun e=>hjk e.symm)) ?_
   rw[Array.setIfInBounds_comm _ _ hjk]
   exact h
theorem ng (hB:fo tt r all=true):∀(l:List Oper) (k:Nat) (listed:Array Bool) (fr:List AV) (M:ah),all.drop k=l->k+l.length=all.length->ju all listed->(∀m,m<k->listed.getD m true=true)->(∀m,k<=m->m<all.length->listed.getD m true=false)->
  dq P tt (some r) all l fr M K->iC P tt r all K l.length listed fr M
 |[],k,listed,fr,M,hd,hl,hc,h1,h2,h=>by
  refine⟨?_,h⟩
  cases hr:Region.ready .any all.toArray listed with
  |nil=>rfl
  |cons j r=>
   have hj:j∈Region.ready .any all.toArray listed:=by rw[hr];simp
   obtain⟨hu,o,ho,_⟩:=mem_ready.1 hj
   have:j<all.length:=by have:=(Array.getElem?_eq_some_iff.1 ho).1;simpa using this
   simp at hl
   rw[h1 j (by omega)] at hu;cases hu
 |o::r,k,listed,fr,M,hd,hl,hc,h1,h2,h=>by
  simp only[List.length_cons] at hl⊢
  have hk:all[k]? =some o:=by
   have:(all.drop k)[0]? =some o:=by rw[hd];rfl
   rw[List.getElem?_drop] at this
   simpa using this
  have hB':=hB
  unfold fo at hB'
  rw[Bool.and_eq_true] at hB'
  have hready:k∈Region.ready .any all.toArray listed:=by
   rw[mem_ready]
   refine⟨h2 k (Nat.le_refl _) (by omega),o,by simpa using hk,fun e he hb=>?_⟩
   have hlt:=nf all 0 hB'.1 k o hk e he hb
   have:=h1 e.on (by omega)
   have hs:e.on<listed.size:=by rw[hc.1];omega
   simpa[hs] using this
  refine wt hB hk r.length listed fr M hc h1 hready (cQ h fun f M' hh=>?_)
  refine ng hB r (k+1) _ f M' (by rw[<-List.drop_drop,hd];rfl) (by omega) (jv hc hready) (fun m hm=>?_) (fun m hm hml=>?_) hh
  ·by_cases e:m=k
   ·subst e
    have hs:m<listed.size:=by rw[hc.1];omega
    simp[hs]
   ·rw[getD_set_ne true (Ne.symm e)];exact h1 m (by omega)
  ·rw[getD_set_ne true (by omega)];exact h2 m (by omega) hml
theorem um (hT:aW P tt=true) (hm:P.follows .mixedOrders=true) (hB:fo tt r all=true) {S F:ae} {ρ:aw} {M:ah} {w:World} {a:Act} {fr:List AV} {id:Nat} {Q:Exit->Act->World->Prop}
  (h:dq P tt (some r) all all fr M K) (hM:az S F ρ M w) (hF:dK S ρ a fr) (hQ:∀a' w',cy S F ρ w K a' w'->Q .normal a' w'):(Code.region id all.toArray true).wp P Q a w:=by
 refine wp_region_any hm ?_
 have hA:=ng (P:=P) (tt:=tt) (K:=K) hB all 0 (Array.replicate all.length false) fr M rfl (by simp) ⟨by simp,fun j o hj hl=>by
   have:=(List.getElem?_eq_some_iff.1 hj).1
   simp[this] at hl⟩ (by simp) (fun m _ hm=>by simp[hm]) h
 have:=rr hT all.length _ S ρ {w with drawn:=w.drawn+1} a fr M hA (hM.drawn _) hF (Q:=Q) (fun a' w' h'=>hQ a' w' (h'.trans (ae.le_refl _) (aw.le_refl _) (bX.drawn _ _ (Nat.le_succ _))))
 simpa using this
end
def DN (ds:List Nat) (o:Oper):Bool:=match o.dst with
 |some d=>!(ds.any (Nat.beq d))
 |none=>true
def Dh (r:aP) (ds:List Nat) (o:Oper):aP:=match DN ds o with
 |true=>r
 |false=> .own
theorem E' {r:aP} {ds:List Nat} {o:Oper} (h:DN ds o=true):Dh r ds o=r:=by unfold Dh;rw[h]
def iE (tt:TT) (r:aP) (ds:List Nat) (all:List Oper):Bool:=
 pk all 0&&(List.range all.length).all fun i=>(List.range all.length).all fun j=>decide (j<=i)||
  (match all[i]?,all[j]? with|some x,some y=>DN ds x&&DN ds y&&nU tt r all x y|_,_=>false)||ll all.length all i j
def pm (P:Program) (tt:TT) (r:aP) (ds:List Nat) (all:List Oper):List Oper->List AV->ah->(List AV->ah->Prop)->Prop
 |[],fr,M,K=>K fr M
 |o::l,fr,M,K=>bJ P tt (some (Dh r ds o)) all o fr M fun fr' M'=>pm P tt r ds all l fr' M' K
section
variable {P:Program} {tt:TT} {all:List Oper} {K:List AV->ah->Prop} {r:aP} {ds:List Nat}
def wu (P:Program) (tt:TT) (r:aP) (ds:List Nat) (all:List Oper) (i:Nat) (fr:List AV) (M:ah) (K:List AV->ah->Prop):Prop:=
 match all[i]? with
 |none=>K fr M
 |some o=>bJ P tt (some (Dh r ds o)) all o fr M K
def fp (P:Program) (tt:TT) (r:aP) (ds:List Nat) (all:List Oper) (K:List AV->ah->Prop):Nat->Array Bool->List AV->ah->Prop
 |0,listed,fr,M=>Region.ready .any all.toArray listed=[]/\K fr M
 |fuel+1,listed,fr,M=>(Region.ready .any all.toArray listed=[]->K fr M)/\
  ∀i∈Region.ready .any all.toArray listed,wu P tt r ds all i fr M (fp P tt r ds all K fuel (listed.setIfInBounds i true))
theorem pn (hT:aW P tt=true) {F:ae} {Q:Exit->Act->World->Prop}:∀(fuel:Nat) (listed:Array Bool) (S:ae) (ρ:aw) (w:World) (a:Act) (fr:List AV) (M:ah),fp P tt r ds all K fuel listed fr M->az S F ρ M w->dK S ρ a fr->
  (∀a' w',cy S F ρ w K a' w'->Q .normal a' w')->wpAny P .any all.toArray Q fuel listed a w
 |0,listed,S,ρ,w,a,fr,M,h,hM,hF,hQ=>⟨h.1,hQ _ _ ⟨fr,M,S,ρ,h.2,ae.le_refl _,aw.le_refl _,hM,hF,bX.refl _⟩⟩
 |fuel+1,listed,S,ρ,w,a,fr,M,h,hM,hF,hQ=>by
  refine⟨fun h0=>hQ _ _ ⟨fr,M,S,ρ,h.1 h0,ae.le_refl _,aw.le_refl _,hM,hF,bX.refl _⟩,fun i hi=>?_⟩
  have hs:=h.2 i hi
  unfold wu at hs
  unfold wpOp
  obtain⟨_,o,ho,_⟩:=mem_ready.1 hi
  have ho':all[i]? =some o:=by simpa using ho
  rw[ho'] at hs
  rw[ho]
  simp only at hs⊢
  have hk:=f4 (Q:=Q) hT hs hM hF
  have next:∀a' w',cy S F ρ w (fp P tt r ds all K fuel (listed.setIfInBounds i true)) a' w'->wpAny P .any all.toArray Q fuel (listed.setIfInBounds i true) a' w':=by
   rintro a' w' ⟨fr',M',S',ρ',hk,h1,h2,h3,h4,h5⟩
   exact pn hT fuel _ S' ρ' w' a' fr' M' hk h3 h4 fun a'' w'' h'=>hQ _ _ (h'.trans h1 h2 h5)
  split
  ·rename_i hw
   rw[if_pos hw] at hk
   exact .inl (Oper.wp_mono next hk)
  ·rename_i hw
   rw[if_neg hw] at hk
   exact next _ _ hk
theorem po (hB:iE tt r ds all=true) {k j:Nat} {x:Oper} (hx:all[k]? =some x) {listed:Array Bool} (hc:ju all listed) (hpre:∀m,m<k->listed.getD m true=true) (hk:k∈Region.ready .any all.toArray listed)
  (hj:j∈Region.ready .any all.toArray listed) (hjk:j≠k):∃y,all[j]? =some y/\k<j/\Dh r ds x=r/\Dh r ds y=r/\nU tt r all x y=true:=by
 obtain⟨hjun,y,hy,hall⟩:=mem_ready.1 hj
 have hy':all[j]? =some y:=by simpa using hy
 have hklt:k<j:=by
  rcases Nat.lt_or_ge k j with h|h
  ·exact h
  ·exfalso
   have:=hpre j (by omega)
   rw[this] at hjun;cases hjun
 have hkun:=(mem_ready.1 hk).1
 have hlen:=(List.getElem?_eq_some_iff.1 hx).1
 have hjlen:=(List.getElem?_eq_some_iff.1 hy').1
 refine⟨y,hy',hklt,?_⟩
 unfold iE at hB
 rw[Bool.and_eq_true] at hB
 have h1:=List.all_eq_true.1 hB.2 k (List.mem_range.2 hlen)
 have h2:=List.all_eq_true.1 h1 j (List.mem_range.2 hjlen)
 rw[hx,hy',Bool.or_eq_true,Bool.or_eq_true] at h2
 rcases h2 with (h2|h2)|h2
 ·simp at h2;omega
 ·rw[Bool.and_eq_true,Bool.and_eq_true] at h2
  exact⟨E' h2.1.1,E' h2.1.2,h2.2⟩
 ·exfalso
  have:=km hc _ k j h2 (fun o ho e he hb=>by
   rw[hy'] at ho;cases ho;exact hall e he hb)
  have hks:k<listed.size:=by rw[hc.1];exact hlen
  simp[hks] at this hkun
  rw[this] at hkun;cases hkun
theorem un (hB:iE tt r ds all=true) {k:Nat} {x:Oper} (hx:all[k]? =some x):∀(fuel:Nat) (listed:Array Bool) (fr:List AV) (M:ah),ju all listed->(∀m,m<k->listed.getD m true=true)->
  k∈Region.ready .any all.toArray listed->bJ P tt (some (Dh r ds x)) all x fr M (fp P tt r ds all K fuel (listed.setIfInBounds k true))->fp P tt r ds all K (fuel+1) listed fr M:=by
 intro fuel
 induction fuel with
 |zero=>
  intro listed fr M hc hpre hk H
  refine⟨fun h=>(by rw[h] at hk;cases hk),fun j hj=>?_⟩
  by_cases hjk:j=k
  ·subst hjk
   unfold wu
   rw[hx]
   exact H
  ·exfalso
   obtain⟨y,_,_,ex,_,hcomm⟩:=po hB hx hc hpre hk hj hjk
   rw[ex] at H
   refine pl (fun ho=>(pj hcomm ho).1) (cQ H fun f M' h=>?_)
   have:=ready_mono hj hjk
   rw[h.1] at this
   cases this
 |succ fuel ih=>
  intro listed fr M hc hpre hk H
  refine⟨fun h=>(by rw[h] at hk;cases hk),fun j hj=>?_⟩
  by_cases hjk:j=k
  ·subst hjk
   unfold wu
   rw[hx]
   exact H
  ·obtain⟨y,hy',hklt,ex,ey,hcomm⟩:=po hB hx hc hpre hk hj hjk
   unfold wu
   rw[hy']
   have H2:=cQ H fun f M' (h:fp P tt r ds all K (fuel+1) (listed.setIfInBounds k true) f M')=>h.2 j (ready_mono hj hjk)
   have H3:bJ P tt (some (Dh r ds x)) all x fr M fun f M'=>bJ P tt (some (Dh r ds y)) all y f M' (fp P tt r ds all K fuel ((listed.setIfInBounds k true).setIfInBounds j true)):=
    cQ H2 fun f M' h=>by unfold wu at h;rw[hy'] at h;exact h
   rw[ex,ey] at H3
   have H4:=rq hcomm fr M _ H3
   show bJ P tt (some (Dh r ds y)) all y fr M (fp P tt r ds all K (fuel+1) (listed.setIfInBounds j true))
   rw[ey]
   refine cQ H4 fun f M' h=>?_
   refine ih (listed.setIfInBounds j true) f M' (jv hc hj) (fun m hm=>by rw[getD_set_ne true (by omega)];exact hpre m hm) (ready_mono hk (fun e=>hjk e.symm)) ?_
   rw[Array.setIfInBounds_comm _ _ hjk,ex]
   exact h
theorem lz (hB:iE tt r ds all=true):∀(l:List Oper) (k:Nat) (listed:Array Bool) (fr:List AV) (M:ah),all.drop k=l->k+l.length=all.length->ju all listed->(∀m,m<k->listed.getD m true=true)->(∀m,k<=m->m<all.length->listed.getD m true=false)->
  pm P tt r ds all l fr M K->fp P tt r ds all K l.length listed fr M
 |[],k,listed,fr,M,hd,hl,hc,h1,h2,h=>by
  refine⟨?_,h⟩
  cases hr:Region.ready .any all.toArray listed with
  |nil=>rfl
  |cons j r=>
   have hj:j∈Region.ready .any all.toArray listed:=by rw[hr];simp
   obtain⟨hu,o,ho,_⟩:=mem_ready.1 hj
   have:j<all.length:=by have:=(Array.getElem?_eq_some_iff.1 ho).1;simpa using this
   simp at hl
   rw[h1 j (by omega)] at hu;cases hu
 |o::r,k,listed,fr,M,hd,hl,hc,h1,h2,h=>by
  simp only[List.length_cons] at hl⊢
  have hk:all[k]? =some o:=by
   have:(all.drop k)[0]? =some o:=by rw[hd];rfl
   rw[List.getElem?_drop] at this
   simpa using this
  have hB':=hB
  unfold iE at hB'
  rw[Bool.and_eq_true] at hB'
  have hready:k∈Region.ready .any all.toArray listed:=by
   rw[mem_ready]
   refine⟨h2 k (Nat.le_refl _) (by omega),o,by simpa using hk,fun e he hb=>?_⟩
   have hlt:=nf all 0 hB'.1 k o hk e he hb
   have:=h1 e.on (by omega)
   have hs:e.on<listed.size:=by rw[hc.1];omega
   simpa[hs] using this
  refine un hB hk r.length listed fr M hc h1 hready (cQ h fun f M' hh=>?_)
  refine lz hB r (k+1) _ f M' (by rw[<-List.drop_drop,hd];rfl) (by omega) (jv hc hready) (fun m hm=>?_) (fun m hm hml=>?_) hh
  ·by_cases e:m=k
   ·subst e
    have hs:m<listed.size:=by rw[hc.1];omega
    simp[hs]
   ·rw[getD_set_ne true (Ne.symm e)];exact h1 m (by omega)
  ·rw[getD_set_ne true (by omega)];exact h2 m (by omega) hml
theorem sN (hT:aW P tt=true) (hm:P.follows .mixedOrders=true) (hB:iE tt r ds all=true) {S F:ae} {ρ:aw} {M:ah} {w:World} {a:Act} {fr:List AV} {id:Nat} {Q:Exit->Act->World->Prop}
  (h:pm P tt r ds all all fr M K) (hM:az S F ρ M w) (hF:dK S ρ a fr) (hQ:∀a' w',cy S F ρ w K a' w'->Q .normal a' w'):(Code.region id all.toArray true).wp P Q a w:=by
 refine wp_region_any hm ?_
 have hA:=lz (P:=P) (tt:=tt) (K:=K) hB all 0 (Array.replicate all.length false) fr M rfl (by simp) ⟨by simp,fun j o hj hl=>by
   have:=(List.getElem?_eq_some_iff.1 hj).1
   simp[this] at hl⟩ (by simp) (fun m _ hm=>by simp[hm]) h
 have:=pn hT all.length _ S ρ {w with drawn:=w.drawn+1} a fr M hA (hM.drawn _) hF (Q:=Q) (fun a' w' h'=>hQ a' w' (h'.trans (ae.le_refl _) (aw.le_refl _) (bX.drawn _ _ (Nat.le_succ _))))
 simpa using this
end
def bM (all:List Oper) (done:List Nat):List Nat:=
 (List.range all.length).filter fun i=>!(done.any (Nat.beq i))&&(match all[i]? with|some o=>o.after.toList.all fun e=>!(Region.binds .any e)||(decide (e.on<all.length)&&done.any (Nat.beq e.on))|none=>false)
def lA:List Nat->(Nat->Prop)->Prop
 |[],_=>True
 |i::l,f=>f i/\lA l f
def rB (P:Program) (tt:TT) (d:Option aP) (all:List Oper) (i:Nat) (fr:List AV) (M:ah) (K:List AV->ah->Prop):Prop:=
 match all[i]? with
 |none=>K fr M
 |some o=>bJ P tt d all o fr M K
def aV (P:Program) (tt:TT) (d:Option aP) (all:List Oper) (K:List AV->ah->Prop):Nat->List Nat->List AV->ah->Prop
 |0,done,fr,M=>match bM all done with
  |[]=>K fr M
  |_::_=>False
 |n+1,done,fr,M=>match bM all done with
  |[]=>K fr M
  |i::l=>lA (i::l) fun j=>rB P tt d all j fr M (aV P tt d all K n (j::done))
theorem pp {f:Nat->Prop}:∀{l:List Nat},lA l f->∀i∈l,f i
 |_::_,h,i,hi=>by
  rcases List.mem_cons.1 hi with rfl|hi
  ·exact h.1
  ·exact pp h.2 i hi
section
variable {P:Program} {tt:TT} {all:List Oper} {K:List AV->ah->Prop} {fr:List AV} {M:ah}
theorem fq {done:List Nat} {i:Nat}:done.any (Nat.beq i)=true↔i∈done:=by
 rw[List.any_eq_true]
 constructor
 ·rintro⟨x,hx,h⟩;rw[Nat.eq_of_beq_eq_true h];exact hx
 ·intro h;exact⟨i,h,by simp⟩
theorem md {listed:Array Bool} {done:List Nat} (hs:listed.size=all.length) (hl:∀i,i<all.length->(listed.getD i true=true↔i∈done)) {i:Nat}:i∈bM all done↔i∈Region.ready .any all.toArray listed:=by
 have key:∀e,listed.getD e false=true↔e<all.length/\e∈done:=by
  intro e
  rcases Nat.lt_or_ge e listed.size with h|h
  ·rw[<-hs]
   refine⟨fun h1=>⟨h,(hl e (by omega)).1 (by simpa[h] using h1)⟩,fun h1=>?_⟩
   have:=(hl e (by omega)).2 h1.2
   simpa[h] using this
  ·refine⟨fun h1=>?_,fun h1=>by omega⟩
   simp[Array.getD,Nat.not_lt.2 h] at h1
 rw[mem_ready]
 unfold bM
 rw[List.mem_filter]
 constructor
 ·rintro⟨h1,h2⟩
  have hi:=List.mem_range.1 h1
  rw[Bool.and_eq_true,Bool.not_eq_true',Bool.eq_false_iff] at h2
  obtain⟨h2,h3⟩:=h2
  refine⟨?_,?_⟩
  ·rw[Bool.eq_false_iff]
   exact fun h=>h2 (fq.2 ((hl i hi).1 h))
  ·have ho:all[i]? =some all[i]:=List.getElem?_eq_getElem hi
   rw[ho] at h3
   refine⟨all[i],by simp,fun e he hb=>?_⟩
   have:=List.all_eq_true.1 h3 e (by simpa using he)
   rw[hb,Bool.not_true,Bool.false_or,Bool.and_eq_true] at this
   exact(key e.on).2 ⟨by simpa using this.1,fq.1 this.2⟩
 ·rintro⟨hu,o,ho,ha⟩
  have ho':all[i]? =some o:=by simpa using ho
  have hi:=(List.getElem?_eq_some_iff.1 ho').1
  refine⟨List.mem_range.2 hi,?_⟩
  rw[ho',Bool.and_eq_true]
  constructor
  ·rw[Bool.not_eq_true',Bool.eq_false_iff]
   intro hd
   have:=(hl i hi).2 (fq.1 hd)
   rw[this] at hu;cases hu
  ·dsimp only
   rw[List.all_eq_true]
   intro e he
   cases hb:Region.binds .any e with
   |false=>rfl
   |true=>
    have h1:=(key e.on).1 (ha e (by simpa using he) hb)
    rw[Bool.not_true,Bool.false_or,Bool.and_eq_true]
    exact⟨by simpa using h1.1,fq.2 h1.2⟩
theorem pq {listed:Array Bool} {done:List Nat} (hs:listed.size=all.length) (hl:∀i,i<all.length->(listed.getD i true=true↔i∈done)) {j:Nat} (hj:j<all.length):
  ∀i,i<all.length->((listed.setIfInBounds j true).getD i true=true↔i∈j::done):=by
 intro i hi
 by_cases e:i=j
 ·subst e
  have:i<listed.size:=by omega
  simp[this]
 ·rw[getD_set_ne true (Ne.symm e),hl i hi]
  simp[e]
theorem gC {listed:Array Bool} {done:List Nat} (hs:listed.size=all.length) (hl:∀i,i<all.length->(listed.getD i true=true↔i∈done)):bM all done=[]↔Region.ready .any all.toArray listed=[]:=by
 rw[List.eq_nil_iff_forall_not_mem,List.eq_nil_iff_forall_not_mem]
 exact⟨fun h i hi=>h i ((md hs hl).2 hi),fun h i hi=>h i ((md hs hl).1 hi)⟩
theorem uo {d:Option aP} (hT:aW P tt=true) {F:ae} {Q:Exit->Act->World->Prop}:∀(n:Nat) (done:List Nat) (listed:Array Bool) (S:ae) (ρ:aw) (w:World) (a:Act) (fr:List AV) (M:ah),listed.size=all.length->(∀i,i<all.length->(listed.getD i true=true↔i∈done))->
  aV P tt d all K n done fr M->az S F ρ M w->dK S ρ a fr->(∀a' w',cy S F ρ w K a' w'->Q .normal a' w')->wpAny P .any all.toArray Q n listed a w
 |0,done,listed,S,ρ,w,a,fr,M,hs,hl,h,hM,hF,hQ=>by
  unfold aV at h
  split at h
  ·rename_i h0;exact⟨(gC hs hl).1 h0,hQ _ _ ⟨fr,M,S,ρ,h,ae.le_refl _,aw.le_refl _,hM,hF,bX.refl _⟩⟩
  ·exact h.elim
 |n+1,done,listed,S,ρ,w,a,fr,M,hs,hl,h,hM,hF,hQ=>by
  unfold aV at h
  split at h
  ·rename_i h0
   have:=(gC hs hl).1 h0
   exact⟨fun _=>hQ _ _ ⟨fr,M,S,ρ,h,ae.le_refl _,aw.le_refl _,hM,hF,bX.refl _⟩,fun i hi=>by rw[this] at hi;cases hi⟩
  ·rename_i i l h0
   rw[<-h0] at h
   refine⟨fun h1=>?_,fun j hj=>?_⟩
   ·rw[(gC hs hl).2 h1] at h0;cases h0
   have hjr:=(md hs hl).2 hj
   have h2:=pp h j hjr
   have hjl:j<all.length:=by
    unfold bM at hjr
    exact List.mem_range.1 (List.mem_filter.1 hjr).1
   unfold rB at h2
   unfold wpOp
   obtain⟨_,o,ho,_⟩:=mem_ready.1 hj
   have ho':all[j]? =some o:=by simpa using ho
   rw[ho'] at h2
   rw[ho]
   simp only at h2⊢
   have hk:=f4 (Q:=Q) hT h2 hM hF
   have next:∀a' w',cy S F ρ w (aV P tt d all K n (j::done)) a' w'->wpAny P .any all.toArray Q n (listed.setIfInBounds j true) a' w':=by
    rintro a' w' ⟨fr',M',S',ρ',hk,h1,h2,h3,h4,h5⟩
    exact uo hT n (j::done) _ S' ρ' w' a' fr' M' (by simpa using hs) (pq hs hl hjl) hk h3 h4 fun a'' w'' h'=>hQ _ _ (h'.trans h1 h2 h5)
   split
   ·rename_i hw
    rw[if_pos hw] at hk
    exact .inl (Oper.wp_mono next hk)
   ·rename_i hw
    rw[if_neg hw] at hk
    exact next _ _ hk
theorem sO {d:Option aP} (hT:aW P tt=true) (hm:P.follows .mixedOrders=true) {S F:ae} {ρ:aw} {w:World} {a:Act} {id:Nat} {Q:Exit->Act->World->Prop}
  (h:aV P tt d all K all.length [] fr M) (hM:az S F ρ M w) (hF:dK S ρ a fr) (hQ:∀a' w',cy S F ρ w K a' w'->Q .normal a' w'):(Code.region id all.toArray true).wp P Q a w:=by
 refine wp_region_any hm ?_
 have:=uo hT all.length [] (Array.replicate all.length false) S ρ {w with drawn:=w.drawn+1} a fr M (by simp) (fun i hi=>by simp[hi]) h (hM.drawn _) hF (Q:=Q) (fun a' w' h'=>hQ a' w' (h'.trans (ae.le_refl _) (aw.le_refl _) (bX.drawn _ _ (Nat.le_succ _))))
 simpa using this
end
end
end Go.Proofs.YtblcpnmnibcbbaaGreatDoor
