import Derived.Test.YtokjgegkhlkopaaGreatDoorG4
import Derived.RangeFuncIn
import Derived.RangeFuncLeaves
import Derived.RangeFuncRecord
import Derived.TacticsIn
import Derived.OrdersIn
set_option linter.unusedVariables false
set_option linter.unusedSimpArgs false
namespace Go.Proofs.YtokjgegkhlkopaaGreatDoor
section
def ia (r:Option Nat):Fence:={Fence.wide with round:=r}
theorem mG {r:Option Nat} {n:Nat} {P:Program} {f:FuncId} {args:Array Value} {w:World} {R:Ending->World->Prop} (h:Calls P f args w R):CallsIn (ia r) n P f args w R:=
 (callsIn_wide (n:=n)).2 h
theorem AZ {P:Program} {o:Oper} {a:Act} {w:World} {next:Act->World->Prop} {Q:Exit->Act->World->Prop} {r:Option Nat} (hd:∀c,o.op≠ .defer c) (h:o.wp P a w next Q):o.wpIn (ia r) 0 P a w next Q:=by
 refine⟨fun _ _=>trivial,?_⟩
 rw[Oper.semAt_eq _ _ _ hd]
 unfold Oper.wp at h
 generalize (execOp a.eval o).run P w=res at h
 cases res with
 |ok n w'=>
  cases n with
  |enter f args=>exact⟨fun hh=>(by cases hh),mG h⟩
  |row row args=>
   refine⟨fun hh=>(by cases hh),fun c cs _=>?_⟩
   obtain⟨v,w'',hr,hs⟩:=h c cs
   exact⟨v,w'',hr,stepsIn_wide.2 hs⟩
  |_=>first|exact h|exact h.elim
 |halt x w'=>
  cases x<;>first|exact h|exact h.elim
theorem mh {P:Program} {o:Oper} {a:Act} {w:World} {next next':Act->World->Prop} {Q':Exit->Act->World->Prop} (h:o.wp P {a with defers:=[]} w next (fun _ _ _=>False)) (hz:∀a' w',next a' w'->a'.defers=[]) (hn:∀a' w',next a' w'->next' {a' with defers:=a.defers} w'):o.wp P a w next' Q':=by
 have he:({a with defers:=[]}:Act).eval=a.eval:=by funext x;cases x<;>rfl
 have hp:∀v,({({a with defers:=[]}:Act).put o.dst v with defers:=a.defers}:Act)=a.put o.dst v:=by
  intro v;cases o.dst<;>rfl
 unfold Oper.wp at h⊢
 rw[he] at h
 generalize (execOp a.eval o).run P w=res at h
 cases res with
 |ok n w'=>
  cases n with
  |value v=>have:=hn _ _ h;rw[hp] at this;exact this
  |skip=>have:=hn _ _ h;rw[hp] at this;exact this
  |defer d=>
   have:=hz _ _ h
   cases hdst:o.dst with
   |none=>rw[hdst] at this;cases this
   |some t=>rw[hdst] at this;cases this
  |enter f args=>
   refine Calls.mono h ?_
   intro e w'' hh
   cases e with
   |returned v=>have:=hn _ _ hh;rw[hp] at this;exact this
   |panicked ch=>exact hh.elim
   |outgrown=>obtain⟨_,_,hf⟩:=hh;exact hf.elim
  |row row args=>
   intro c cs
   obtain⟨v,w'',hr,hs⟩:=h c cs
   have:=hn _ _ hr;rw[hp] at this
   exact⟨v,w'',this,hs⟩
  |_=>exact h.elim
 |halt x w'=>
  cases x<;>exact h.elim
def Fi (D:Nat):Deferred:={target:= .collected D,args:=#[]}
def gF (N:Nat) (S:ag) (ds:List Deferred):Prop:=∃Ds:List Nat,ds=Ds.map Fi/\Ds.Nodup/\∀D∈Ds,N<=D/\S D=some (.deferred (some []))
theorem gF.nil (N:Nat) (S:ag):gF N S []:=⟨[],rfl,List.nodup_nil,by simp⟩
theorem gF.mono {N:Nat} {S S':ag} {ds:List Deferred} (h:gF N S ds) (hle:S.le S'):gF N S' ds:=by
 obtain⟨Ds,h1,h2,h3⟩:=h
 exact⟨Ds,h1,h2,fun D hD=>⟨(h3 D hD).1,hle _ _ (h3 D hD).2⟩⟩
def kF (N:Nat) (S:ag) (ρ:aw) (a:Act) (fr:List AV):Prop:=be S ρ a.tmps.toList fr/\gF N S a.defers
def fb (N:Nat) (S F:ag) (ρ:aw) (w:World) (K:List AV->ai->Prop) (a:Act) (w':World):Prop:=
 ∃fr M' S' ρ',K fr M'/\S.le S'/\aw.le ρ ρ'/\ax S' F ρ' M' w'/\kF N S' ρ' a fr/\ce w w'
theorem fb.trans {N:Nat} {S S' F:ag} {ρ ρ':aw} {w w' w'':World} {K:List AV->ai->Prop} {a:Act} (h:fb N S' F ρ' w' K a w'') (hS:S.le S') (hρ:aw.le ρ ρ') (hw:ce w w'):fb N S F ρ w K a w'':=by
 obtain⟨fr,M',S2,ρ2,hk,h1,h2,h3,h4,h5⟩:=h
 exact⟨fr,M',S2,ρ2,hk,ag.le_trans hS h1,aw.le_trans hρ h2,h3,h4,hw.trans h5⟩
theorem fb.mono {N:Nat} {S F:ag} {ρ:aw} {w w':World} {K K':List AV->ai->Prop} {a:Act} (h:fb N S F ρ w K a w') (hk:∀fr M,K fr M->K' fr M):fb N S F ρ w K' a w':=by
 obtain⟨fr,M',S2,ρ2,h0,h⟩:=h
 exact⟨fr,M',S2,ρ2,hk _ _ h0,h⟩
theorem kF.f {N:Nat} {S:ag} {ρ:aw} {a:Act} {fr:List AV} (h:kF N S ρ a fr):ei S ρ {a with defers:=[]} fr:=⟨h.1,rfl⟩
theorem ei.g {S:ag} {ρ:aw} {a:Act} {fr:List AV} (h:ei S ρ a fr) {N:Nat} {ds:List Deferred} (hd:gF N S ds):kF N S ρ {a with defers:=ds} fr:=⟨h.1,hd⟩
abbrev kG:=ag->ag->aw->Prop
structure YS (P:Program) (C:kG) (D:List Nat) (v:Value) (args:List AV) (M:ai) (K:AV->ai->Prop):Prop where
 out:∀S F ρ0 ρ vs w,C S F ρ0->gZ ρ0 D->aw.le ρ0 ρ->ax S F ρ M w->iY S vs args->∃l fn tmps asg bdy,v= .func (.yield l) #[] #[]/\(Instr.yield l vs.toArray).run P w= .ok (.round l fn tmps asg bdy) w/\
  RoundIn Fence.wide 0 P l fn tmps asg bdy w (fun e w'=>∃v' u M' S' ρ',e= .returned v'/\K u M'/\S.le S'/\aw.le ρ0 ρ'/\ax S' F ρ' M' w'/\RP S' v' u/\ce w w')
structure YC (P:Program) (C:kG) (D:List Nat) (v:Value) (args:List AV) (fr:List AV) (M:ai) (K:List AV->AV->ai->Prop):Prop where
 out:∃fr1 L1,aM D fr M fr1 (ai.ofL L1)/\fr1.all (bX 5)=true/\args.all (bX 5)=true/\YS P C D v args (ai.ofL L1) (K fr1)
def NJ (o:Oper) (fr:List AV):Option (Value×List Operand):=
 match o.op with
 | .call c=>match c.callee with
  | .value (.tmp t)=>match fr.getD t .top with
   | .val v=>some (v,c.args.toList)
   |_=>none
  |_=>none
 |_=>none
def qe:Op->Bool
 | .defer _=>true
 |_=>false
def xQ (P:Program) (tt:TT) (C:kG) (D:List Nat) (all:List Oper):List Oper->List AV->ai->(List AV->ai->Prop)->Prop
 |[],fr,M,K=>K fr M
 |o::r,fr,M,K=>match NJ o fr with
  |none=>match qe o.op with
   |true=>False
   |false=>bU P tt none all o fr M fun fr' M'=>xQ P tt C D all r fr' M' K
  |some (v,xs)=>kj all fr o.guard (y6 fr xs fun us=>YC P C D v us fr M fun fr1 u M'=>wL fr1 o.dst u fun fr'=>xQ P tt C D all r fr' M' K) (wL fr o.dst (.tup []) fun fr'=>xQ P tt C D all r fr' M K)
section
variable {S F:ag} {ρ ρ0:aw} {M:ai} {w:World} {P:Program} {tt:TT} {C:kG} {D:List Nat}
theorem gp (a:Act) (d:Option Tmp) (v:Value):({({a with defers:=[]}:Act).put d v with defers:=a.defers}:Act)=a.put d v:=by cases d<;>rfl
theorem qf {N:Nat} (hT:aW P tt=true) (hC:∀S S' F ρ0,S.le S'->C S F ρ0->C S' F ρ0) (h0:gZ ρ0 D) {all:List Oper} {K:List AV->ai->Prop} {Q:Exit->Act->World->Prop} {rd:Option Nat}:∀(l:List Oper) (S:ag) (ρ:aw) (w:World) (a:Act) (fr:List AV) (M:ai),xQ P tt C D all l fr M K->C S F ρ0->aw.le ρ0 ρ->ax S F ρ M w->kF N S ρ a fr->
  (∀a' w',fb N S F ρ0 w K a' w'->Q .normal a' w')->wpListIn (ia rd) 0 P all.toArray Q l a w
 |[],S,ρ,w,a,fr,M,h,_,hρ,hM,hF,hQ=>hQ _ _ ⟨fr,M,S,ρ,h,ag.le_refl _,hρ,hM,hF,ce.refl _⟩
 |o::r,S,ρ,w,a,fr,M,h,hc,hρ,hM,hF,hQ=>by
  unfold wpListIn
  unfold xQ at h
  cases hy:NJ o fr with
  |none=>
   rw[hy] at h
   simp only at h
   cases hdf:qe o.op with
   |true=>rw[hdf] at h;exact h.elim
   |false=>
    rw[hdf] at h
    simp only at h
    have hd:∀c,o.op≠ .defer c:=fun c e=>by rw[e] at hdf;cases hdf
    have hs:=gM (Q:=fun _ _ _=>False) hT h hM hF.f
    have next:∀a' w',cI S F ρ w (fun fr' M'=>xQ P tt C D all r fr' M' K) a' w'->wpListIn (ia rd) 0 P all.toArray Q r {a' with defers:=a.defers} w':=by
     rintro a' w' ⟨fr',M',S',ρ',hk,h1,h2,h3,h4,h5⟩
     exact qf hT hC h0 r S' ρ' w' _ fr' M' hk (hC _ _ _ _ h1 hc) (aw.le_trans hρ h2) h3 (h4.g (hF.2.mono h1)) fun a'' w'' h'=>hQ _ _ (h'.trans h1 (aw.le_refl _) h5)
    split
    ·rename_i hw
     rw[if_pos hw] at hs
     exact AZ hd (mh hs (fun a' w' ⟨_,_,_,_,_,_,_,_,h4,_⟩=>h4.2) next)
    ·rename_i hw
     rw[if_neg hw] at hs
     refine⟨fun _ _=>trivial,?_⟩
     have:=next _ _ hs
     rw[gp] at this
     exact this
  |some q=>
   obtain⟨v,xs⟩:=q
   rw[hy] at h
   simp only at h
   have hg:=tH h hF.f
   split
   ·rename_i hw
    rw[if_pos hw,fL] at hg
    obtain⟨fr1,L1,hsub,hp,hpa,hys⟩:=hg.out
    rw[fj] at hsub
    obtain⟨S1,ρ1,k1,k2,k3,k4⟩:=hsub S F ρ0 ρ _ w h0 hρ hM hF.f
    have hargs:iY S ((xs.map a.eval)) (xs.map (dA fr)):=lY hpa (hF.f.evals xs)
    obtain⟨l,fn,tmps,asg,bdy,hv,hrun,hround⟩:=hys.out S1 F ρ0 ρ1 _ w (hC _ _ _ _ k1 hc) h0 k2 k3 (hargs.mono k1)
    have hop:∃t c,o.op= .call c/\c.callee= .value (.tmp t)/\fr.getD t .top= .val v/\xs=c.args.toList:=by
     unfold NJ at hy
     split at hy
     ·rename_i c ho
      split at hy
      ·rename_i t ht
       split at hy
       ·rename_i v' hv'
        injection hy with e
        injection e with e1 e2
        subst e1;subst e2
        exact⟨t,c,ho,ht,hv',rfl⟩
       ·cases hy
      ·cases hy
     ·cases hy
    obtain⟨t,c,ho,hcal,hval,rfl⟩:=hop
    have hev:a.eval (.tmp t)=v:=by
     have:=hF.f.eval (.tmp t)
     simp only[dA,hval] at this
     exact this.val_inv
    have hexec:(execOp a.eval o).run P w= .ok (.round l fn tmps asg bdy) w:=by
     have e1:(c.args.toList.map a.eval).toArray=c.args.map a.eval:=by apply Array.ext';simp
     rw[e1] at hrun
     unfold execOp
     rw[ho]
     simp only[resolve,hcal,hev,hv,Deferred.ofValue,Sem.run_bind,Sem.run_pure,Result.andThen_ok,invoke,Array.empty_append,hrun]
    have hd:∀c,o.op≠ .defer c:=fun c e=>by rw[ho] at e;cases e
    refine⟨fun _ _=>trivial,?_⟩
    rw[Oper.semAt_eq _ _ _ hd,hexec]
    refine⟨fun hh=>(by cases hh),?_⟩
    have hround':RoundIn (ia rd) (0-1) P l fn tmps asg bdy w (fun e w'=>∃v' u M' S' ρ',e= .returned v'/\(wL fr1 o.dst u fun fr'=>xQ P tt C D all r fr' M' K)/\S1.le S'/\aw.le ρ0 ρ'/\ax S' F ρ' M' w'/\RP S' v' u/\ce w w'):=hround
    refine hround'.mono ?_
    rintro e w' ⟨v',u,M',S',ρ',rfl,hk,j1,j2,j3,j4,j5⟩
    simp only
    rw[bN] at hk
    have hfr:iY S1 a.tmps.toList fr1:=lY hp k4.1
    have hF':kF N S' ρ' (a.put o.dst v') (cC fr1 o.dst u):=by
     have h1:ei S' ρ' {a with defers:=[]} fr1:=⟨(hfr.mono j1).rv ρ',rfl⟩
     have h2:=(h1.put o.dst (.p j4)).g (hF.2.mono (ag.le_trans k1 j1))
     rw[gp] at h2
     exact h2
    exact qf hT hC h0 r S' ρ' w' _ _ M' hk (hC _ _ _ _ (ag.le_trans k1 j1) hc) j2 j3 hF' fun a'' w'' h'=>hQ _ _ (h'.trans (ag.le_trans k1 j1) (aw.le_refl _) j5)
   ·rename_i hw
    rw[if_neg hw,bN] at hg
    refine⟨fun _ _=>trivial,?_⟩
    have h2:=(hF.f.put o.dst (v:=undef) (u:= .tup []) (RV.tup_mk (be.nil _ _))).g hF.2
    rw[gp] at h2
    exact qf hT hC h0 r S ρ w _ _ M hg hc hρ hM h2 hQ
end
end
section
structure fm (P:Program) (rd:Option Nat) (C:kG) (D:List Nat) (c:Code) (fr:List AV) (M:ai) (Q:bR):Prop where
 out:∀N S F ρ0 ρ a w,N<=w.heap.size->C S F ρ0->gZ ρ0 D->aw.le ρ0 ρ->ax S F ρ M w->kF N S ρ a fr->c.wpIn (ia rd) 0 P (fun e a' w'=>∃x,BZ e=some x/\fb N S F ρ0 w (Q x) a' w') a w
def gG:List Oper->Bool
 |[]=>true
 |o::r=>match qe o.op with|true=>false|false=>gG r
theorem kH:∀{l:List Oper},gG l=true->∀{i:Nat} {o:Oper},l[i]? =some o->∀c,o.op≠ .defer c
 |[],_,i,o,h,_=>by simp at h
 |x::r,hn,i,o,h,c=>by
  simp only[gG] at hn
  cases hd:qe x.op with
  |true=>rw[hd] at hn;cases hn
  |false=>
   rw[hd] at hn
   cases i with
   |zero=>
    simp at h;subst h
    intro e
    rw[e] at hd;cases hd
   |succ i=>exact kH hn (i:=i) (by simpa using h) c
section
variable {P:Program} {tt:TT} {all:List Oper} {K:List AV->ai->Prop} {r:ba}
theorem ue {N:Nat} {rd:Option Nat} {ρ0:aw} (hT:aW P tt=true) (hn:gG all=true) {F:ag} {Q:Exit->Act->World->Prop}:∀(fuel:Nat) (listed:Array Bool) (S:ag) (ρ:aw) (w:World) (a:Act) (fr:List AV) (M:ai),jy P tt r all K fuel listed fr M->aw.le ρ0 ρ->ax S F ρ M w->kF N S ρ a fr->
  (∀a' w',fb N S F ρ0 w K a' w'->Q .normal a' w')->wpAnyIn (ia rd) 0 P .any all.toArray Q fuel listed a w
 |0,listed,S,ρ,w,a,fr,M,h,hρ,hM,hF,hQ=>⟨h.1,hQ _ _ ⟨fr,M,S,ρ,h.2,ag.le_refl _,hρ,hM,hF,ce.refl _⟩⟩
 |fuel+1,listed,S,ρ,w,a,fr,M,h,hρ,hM,hF,hQ=>by
  refine⟨fun h0=>hQ _ _ ⟨fr,M,S,ρ,h.1 h0,ag.le_refl _,hρ,hM,hF,ce.refl _⟩,fun i hi=>?_⟩
  have hs:=h.2 i hi
  unfold JS at hs
  unfold wpOpIn
  obtain⟨_,o,ho,_⟩:=mem_ready.1 hi
  have ho':all[i]? =some o:=by simpa using ho
  rw[ho'] at hs
  rw[ho]
  simp only at hs⊢
  have hk:=gM (Q:=fun _ _ _=>False) hT hs hM hF.f
  have next:∀a' w',cI S F ρ w (jy P tt r all K fuel (listed.setIfInBounds i true)) a' w'->wpAnyIn (ia rd) 0 P .any all.toArray Q fuel (listed.setIfInBounds i true) {a' with defers:=a.defers} w':=by
   rintro a' w' ⟨fr',M',S',ρ',hk,h1,h2,h3,h4,h5⟩
   exact ue hT hn fuel _ S' ρ' w' _ fr' M' hk (aw.le_trans hρ h2) h3 (h4.g (hF.2.mono h1)) fun a'' w'' h'=>hQ _ _ (h'.trans h1 (aw.le_refl _) h5)
  split
  ·rename_i hw
   rw[if_pos hw] at hk
   exact AZ (kH hn ho') (mh hk (fun a' w' ⟨_,_,_,_,_,_,_,_,h4,_⟩=>h4.2) next)
  ·rename_i hw
   rw[if_neg hw] at hk
   refine⟨fun _ _=>trivial,?_⟩
   have:=next _ _ hk
   rw[gp] at this
   exact this
theorem xR {d:Option ba} {N:Nat} {rd:Option Nat} {ρ0:aw} (hT:aW P tt=true) (hn:gG all=true) {F:ag} {Q:Exit->Act->World->Prop}:∀(n:Nat) (done:List Nat) (listed:Array Bool) (S:ag) (ρ:aw) (w:World) (a:Act) (fr:List AV) (M:ai),listed.size=all.length->(∀i,i<all.length->(listed.getD i true=true↔i∈done))->
  bH P tt d all K n done fr M->aw.le ρ0 ρ->ax S F ρ M w->kF N S ρ a fr->(∀a' w',fb N S F ρ0 w K a' w'->Q .normal a' w')->wpAnyIn (ia rd) 0 P .any all.toArray Q n listed a w
 |0,done,listed,S,ρ,w,a,fr,M,hs,hl,h,hρ,hM,hF,hQ=>by
  unfold bH at h
  split at h
  ·rename_i h0;exact⟨(ir hs hl).1 h0,hQ _ _ ⟨fr,M,S,ρ,h,ag.le_refl _,hρ,hM,hF,ce.refl _⟩⟩
  ·exact h.elim
 |n+1,done,listed,S,ρ,w,a,fr,M,hs,hl,h,hρ,hM,hF,hQ=>by
  unfold bH at h
  split at h
  ·rename_i h0
   have:=(ir hs hl).1 h0
   exact⟨fun _=>hQ _ _ ⟨fr,M,S,ρ,h,ag.le_refl _,hρ,hM,hF,ce.refl _⟩,fun i hi=>by rw[this] at hi;cases hi⟩
  ·rename_i i l h0
   rw[<-h0] at h
   refine⟨fun h1=>?_,fun j hj=>?_⟩
   ·rw[(ir hs hl).2 h1] at h0;cases h0
   have hjr:=(nx hs hl).2 hj
   have h2:=qY h j hjr
   have hjl:j<all.length:=by
    unfold dL at hjr
    exact List.mem_range.1 (List.mem_filter.1 hjr).1
   unfold Aw at h2
   unfold wpOpIn
   obtain⟨_,o,ho,_⟩:=mem_ready.1 hj
   have ho':all[j]? =some o:=by simpa using ho
   rw[ho'] at h2
   rw[ho]
   simp only at h2⊢
   have hk:=gM (Q:=fun _ _ _=>False) hT h2 hM hF.f
   have next:∀a' w',cI S F ρ w (bH P tt d all K n (j::done)) a' w'->wpAnyIn (ia rd) 0 P .any all.toArray Q n (listed.setIfInBounds j true) {a' with defers:=a.defers} w':=by
    rintro a' w' ⟨fr',M',S',ρ',hk,h1,h2,h3,h4,h5⟩
    exact xR hT hn n (j::done) _ S' ρ' w' _ fr' M' (by simpa using hs) (qZ hs hl hjl) hk (aw.le_trans hρ h2) h3 (h4.g (hF.2.mono h1)) fun a'' w'' h'=>hQ _ _ (h'.trans h1 (aw.le_refl _) h5)
   split
   ·rename_i hw
    rw[if_pos hw] at hk
    exact AZ (kH hn ho') (mh hk (fun a' w' ⟨_,_,_,_,_,_,_,_,h4,_⟩=>h4.2) next)
   ·rename_i hw
    rw[if_neg hw] at hk
    refine⟨fun _ _=>trivial,?_⟩
    have:=next _ _ hk
    rw[gp] at this
    exact this
theorem vL {N:Nat} {rd:Option Nat} {ρ0:aw} (hT:aW P tt=true) (hm:P.follows .mixedOrders=true) (hn:gG all=true) (hB:f6 tt r all=true) {S F:ag} {ρ:aw} {M:ai} {w:World} {a:Act} {fr:List AV} {id:Nat} {Q:Exit->Act->World->Prop}
  (h:fW P tt (some r) all all fr M K) (hρ:aw.le ρ0 ρ) (hM:ax S F ρ M w) (hF:kF N S ρ a fr) (hQ:∀a' w',fb N S F ρ0 w K a' w'->Q .normal a' w'):(Code.region id all.toArray true).wpIn (ia rd) 0 P Q a w:=by
 refine wpIn_region_any hm ?_
 have hA:=oO (P:=P) (tt:=tt) (K:=K) hB all 0 (Array.replicate all.length false) fr M rfl (by simp) ⟨by simp,fun j o hj hl=>by
   have:=(List.getElem?_eq_some_iff.1 hj).1
   simp[this] at hl⟩ (by simp) (fun m _ hm=>by simp[hm]) h
 have:=ue (N:=N) (rd:=rd) (ρ0:=ρ0) hT hn all.length _ S ρ {w with drawn:=w.drawn+1} a fr M hA hρ (hM.drawn _) hF (Q:=Q) (fun a' w' h'=>hQ a' w' (h'.trans (ag.le_refl _) (aw.le_refl _) (ce.drawn _ _ (Nat.le_succ _))))
 simpa using this
theorem rX {ds:List Nat} {N:Nat} {rd:Option Nat} {ρ0:aw} (hT:aW P tt=true) (hn:gG all=true) {F:ag} {Q:Exit->Act->World->Prop}:∀(fuel:Nat) (listed:Array Bool) (S:ag) (ρ:aw) (w:World) (a:Act) (fr:List AV) (M:ai),fN P tt r ds all K fuel listed fr M->aw.le ρ0 ρ->ax S F ρ M w->kF N S ρ a fr->
  (∀a' w',fb N S F ρ0 w K a' w'->Q .normal a' w')->wpAnyIn (ia rd) 0 P .any all.toArray Q fuel listed a w
 |0,listed,S,ρ,w,a,fr,M,h,hρ,hM,hF,hQ=>⟨h.1,hQ _ _ ⟨fr,M,S,ρ,h.2,ag.le_refl _,hρ,hM,hF,ce.refl _⟩⟩
 |fuel+1,listed,S,ρ,w,a,fr,M,h,hρ,hM,hF,hQ=>by
  refine⟨fun h0=>hQ _ _ ⟨fr,M,S,ρ,h.1 h0,ag.le_refl _,hρ,hM,hF,ce.refl _⟩,fun i hi=>?_⟩
  have hs:=h.2 i hi
  unfold ze at hs
  unfold wpOpIn
  obtain⟨_,o,ho,_⟩:=mem_ready.1 hi
  have ho':all[i]? =some o:=by simpa using ho
  rw[ho'] at hs
  rw[ho]
  simp only at hs⊢
  have hk:=gM (Q:=fun _ _ _=>False) hT hs hM hF.f
  have next:∀a' w',cI S F ρ w (fN P tt r ds all K fuel (listed.setIfInBounds i true)) a' w'->wpAnyIn (ia rd) 0 P .any all.toArray Q fuel (listed.setIfInBounds i true) {a' with defers:=a.defers} w':=by
   rintro a' w' ⟨fr',M',S',ρ',hk,h1,h2,h3,h4,h5⟩
   exact rX hT hn fuel _ S' ρ' w' _ fr' M' hk (aw.le_trans hρ h2) h3 (h4.g (hF.2.mono h1)) fun a'' w'' h'=>hQ _ _ (h'.trans h1 (aw.le_refl _) h5)
  split
  ·rename_i hw
   rw[if_pos hw] at hk
   exact AZ (kH hn ho') (mh hk (fun a' w' ⟨_,_,_,_,_,_,_,_,h4,_⟩=>h4.2) next)
  ·rename_i hw
   rw[if_neg hw] at hk
   refine⟨fun _ _=>trivial,?_⟩
   have:=next _ _ hk
   rw[gp] at this
   exact this
theorem tc {ds:List Nat} {N:Nat} {rd:Option Nat} {ρ0:aw} (hT:aW P tt=true) (hm:P.follows .mixedOrders=true) (hn:gG all=true) (hB:ku tt r ds all=true) {S F:ag} {ρ:aw} {M:ai} {w:World} {a:Act} {fr:List AV} {id:Nat} {Q:Exit->Act->World->Prop}
  (h:tQ P tt r ds all all fr M K) (hρ:aw.le ρ0 ρ) (hM:ax S F ρ M w) (hF:kF N S ρ a fr) (hQ:∀a' w',fb N S F ρ0 w K a' w'->Q .normal a' w'):(Code.region id all.toArray true).wpIn (ia rd) 0 P Q a w:=by
 refine wpIn_region_any hm ?_
 have hA:=mO (P:=P) (tt:=tt) (K:=K) hB all 0 (Array.replicate all.length false) fr M rfl (by simp) ⟨by simp,fun j o hj hl=>by
   have:=(List.getElem?_eq_some_iff.1 hj).1
   simp[this] at hl⟩ (by simp) (fun m _ hm=>by simp[hm]) h
 have:=rX (N:=N) (rd:=rd) (ρ0:=ρ0) hT hn all.length _ S ρ {w with drawn:=w.drawn+1} a fr M hA hρ (hM.drawn _) hF (Q:=Q) (fun a' w' h'=>hQ a' w' (h'.trans (ag.le_refl _) (aw.le_refl _) (ce.drawn _ _ (Nat.le_succ _))))
 simpa using this
theorem td {d:Option ba} {N:Nat} {rd:Option Nat} {ρ0:aw} (hT:aW P tt=true) (hm:P.follows .mixedOrders=true) (hn:gG all=true) {S F:ag} {ρ:aw} {M:ai} {w:World} {a:Act} {fr:List AV} {id:Nat} {Q:Exit->Act->World->Prop}
  (h:bH P tt d all K all.length [] fr M) (hρ:aw.le ρ0 ρ) (hM:ax S F ρ M w) (hF:kF N S ρ a fr) (hQ:∀a' w',fb N S F ρ0 w K a' w'->Q .normal a' w'):(Code.region id all.toArray true).wpIn (ia rd) 0 P Q a w:=by
 refine wpIn_region_any hm ?_
 have:=xR (N:=N) (rd:=rd) (ρ0:=ρ0) hT hn all.length [] (Array.replicate all.length false) S ρ {w with drawn:=w.drawn+1} a fr M (by simp) (fun i hi=>by simp[hi]) h hρ (hM.drawn _) hF (Q:=Q) (fun a' w' h'=>hQ a' w' (h'.trans (ag.le_refl _) (aw.le_refl _) (ce.drawn _ _ (Nat.le_succ _))))
 simpa using this
end
def f9 (P:Program) (tt:TT) (rd:Option Nat) (C:kG) (D:List Nat):Code->List AV->ai->bR->Prop
 | .skip,fr,M,Q=>Q .normal fr M
 | .region _ ops draw,fr,M,Q=>match draw with
  |false=>xQ P tt C D ops.toList ops.toList fr M (Q .normal)
  |true=>match gG ops.toList with
   |true=>g7 P tt ops.toList fr M (Q .normal)
   |false=>False
 | .seq a b,fr,M,Q=>f9 P tt rd C D a fr M fun e fr' M'=>match e with
  | .normal=>f9 P tt rd C D b fr' M' Q
  | .exit i=>Q (.exit i) fr' M'
  | .ret=>Q .ret fr' M'
 | .cond c x y,fr,M,Q=>LT fr c fun u=>match u with
  | .bool true=>f9 P tt rd C D x fr M Q
  | .bool false=>f9 P tt rd C D y fr M Q
  |_=>False
 | .block id c,fr,M,Q=>f9 P tt rd C D c fr M fun e fr' M'=>match e with
  | .normal=>Q .normal fr' M'
  | .exit i=>match Nat.beq i id with
   |true=>Q .normal fr' M'
   |false=>Q (.exit i) fr' M'
  | .ret=>Q .ret fr' M'
 | .exit id,fr,M,Q=>Q (.exit id) fr M
 | .ret,fr,M,Q=>Q .ret fr M
 | .loop c,fr,M,Q=>fm P rd C D (.loop c) fr M Q
 | .rangeFunc f ps as c,fr,M,Q=>fm P rd C D (.rangeFunc f ps as c) fr M Q
 | .scope c,fr,M,Q=>fm P rd C D (.scope c) fr M Q
 | .label l,fr,M,Q=>fm P rd C D (.label l) fr M Q
 | .goto l,fr,M,Q=>fm P rd C D (.goto l) fr M Q
 | .refuse s,fr,M,Q=>fm P rd C D (.refuse s) fr M Q
section
variable {P:Program} {tt:TT} {rd:Option Nat} {C:kG} {D:List Nat}
theorem iR (hT:aW P tt=true) (hm:P.follows .mixedOrders=true) (hC:∀S S' F ρ0,S.le S'->C S F ρ0->C S' F ρ0):∀(c:Code) (fr:List AV) (M:ai) (Q:bR),f9 P tt rd C D c fr M Q->fm P rd C D c fr M Q:=by
 intro c
 induction c with
 |skip=>
  intro fr M Q h
  refine⟨fun N S F ρ0 ρ a w hN hc h0 h1 hM hF=>?_⟩
  exact wpIn_skip ⟨.normal,rfl,fr,M,S,ρ,h,ag.le_refl _,h1,hM,hF,ce.refl _⟩
 |region id ops draw=>
  intro fr M Q h
  refine⟨fun N S F ρ0 ρ a w hN hc h0 h1 hM hF=>?_⟩
  simp only[f9] at h
  have e:ops=ops.toList.toArray:=by simp
  cases draw with
  |false=>
   rw[e]
   exact wpIn_region_lit (qf hT hC h0 ops.toList S ρ w a fr M h hc h1 hM hF fun a' w' ha=>⟨.normal,rfl,ha⟩)
  |true=>
   simp only at h
   split at h
   ·rename_i hn
    rw[dW] at h
    rw[e]
    rcases h with ⟨r,g1,g2⟩|⟨r,ds,g1,g2⟩|⟨d,g2⟩
    ·exact vL hT hm hn g1 g2 h1 hM hF fun a' w' ha=>⟨.normal,rfl,ha⟩
    ·exact tc hT hm hn g1 g2 h1 hM hF fun a' w' ha=>⟨.normal,rfl,ha⟩
    ·exact td hT hm hn g2 h1 hM hF fun a' w' ha=>⟨.normal,rfl,ha⟩
   ·exact h.elim
 |seq x y ihx ihy=>
  intro fr M Q h
  have hx:=ihx fr M _ h
  refine⟨fun N S F ρ0 ρ a w hN hc h0 h1 hM hF=>?_⟩
  refine wpIn_seq (wpIn_mono (hx.out N S F ρ0 ρ a w hN hc h0 h1 hM hF) ?_)
  rintro e a' w' ⟨ex,he,f,M',S',ρ',k,k1,k2,k3,k4,k5⟩
  cases e with
  |normal=>
   cases he
   refine wpIn_mono ((ihy f M' Q k).out N S' F ρ0 ρ' a' w' (Nat.le_trans hN k5.size) (hC _ _ _ _ k1 hc) h0 k2 k3 k4) ?_
   rintro e2 a2 w2 ⟨ex2,he2,ha⟩
   exact⟨ex2,he2,ha.trans k1 (aw.le_refl _) k5⟩
  |exit i=>cases he;exact⟨_,rfl,f,M',S',ρ',k,k1,k2,k3,k4,k5⟩
  |ret=>cases he;exact⟨_,rfl,f,M',S',ρ',k,k1,k2,k3,k4,k5⟩
  |goto l=>cases he
  |panic l=>cases he
  |outgrown=>cases he
 |cond c x y ihx ihy=>
  intro fr M Q h
  simp only[f9,y5] at h
  refine⟨fun N S F ρ0 ρ a w hN hc h0 h1 hM hF=>?_⟩
  have hcv:=hF.f.eval c
  have he:({a with defers:=[]}:Act).eval c=a.eval c:=by cases c<;>rfl
  rw[he] at hcv
  split at h
  ·rename_i hb
   rw[hb] at hcv
   exact wpIn_cond_true hcv.bool_inv ((ihx fr M Q h).out N S F ρ0 ρ a w hN hc h0 h1 hM hF)
  ·rename_i hb
   rw[hb] at hcv
   exact wpIn_cond_false hcv.bool_inv ((ihy fr M Q h).out N S F ρ0 ρ a w hN hc h0 h1 hM hF)
  ·exact h.elim
 |block id c ih=>
  intro fr M Q h
  have hx:=ih fr M _ h
  refine⟨fun N S F ρ0 ρ a w hN hc h0 h1 hM hF=>?_⟩
  refine wpIn_block (wpIn_mono (hx.out N S F ρ0 ρ a w hN hc h0 h1 hM hF) ?_)
  rintro e a' w' ⟨ex,he,f,M',S',ρ',k,k1,k2,k3,k4,k5⟩
  cases e with
  |normal=>cases he;exact⟨_,rfl,f,M',S',ρ',k,k1,k2,k3,k4,k5⟩
  |exit i=>
   cases he
   simp only[Exit.inBlock]
   simp only at k
   split at k
   ·rename_i hb
    rw[if_pos (Nat.eq_of_beq_eq_true hb)]
    exact⟨_,rfl,f,M',S',ρ',k,k1,k2,k3,k4,k5⟩
   ·rename_i hb
    rw[if_neg (fun e=>by subst e;simp at hb)]
    exact⟨_,rfl,f,M',S',ρ',k,k1,k2,k3,k4,k5⟩
  |ret=>cases he;exact⟨_,rfl,f,M',S',ρ',k,k1,k2,k3,k4,k5⟩
  |goto l=>cases he
  |panic l=>cases he
  |outgrown=>cases he
 |exit id=>
  intro fr M Q h
  refine⟨fun N S F ρ0 ρ a w hN hc h0 h1 hM hF=>?_⟩
  exact wpIn_exit ⟨_,rfl,fr,M,S,ρ,h,ag.le_refl _,h1,hM,hF,ce.refl _⟩
 |ret=>
  intro fr M Q h
  refine⟨fun N S F ρ0 ρ a w hN hc h0 h1 hM hF=>?_⟩
  exact wpIn_ret ⟨_,rfl,fr,M,S,ρ,h,ag.le_refl _,h1,hM,hF,ce.refl _⟩
 |loop c _=>intro fr M Q h;exact h
 |rangeFunc f ps as c _ _=>intro fr M Q h;exact h
 |scope c _=>intro fr M Q h;exact h
 |label l=>intro fr M Q h;exact h
 |goto l=>intro fr M Q h;exact h
 |refuse s=>intro fr M Q h;exact h
theorem aM.g {fr fr':List AV} {M M':ai} (hs:aM D fr M fr' M') {N:Nat} {S F:ag} {ρ0 ρ:aw} {a:Act} {w:World} (h0:gZ ρ0 D) (h1:aw.le ρ0 ρ) (hM:ax S F ρ M w) (hF:kF N S ρ a fr):∃S' ρ',S.le S'/\aw.le ρ0 ρ'/\ax S' F ρ' M' w/\kF N S' ρ' a fr':=by
 rw[fj] at hs
 obtain⟨S',ρ',k1,k2,k3,k4⟩:=hs S F ρ0 ρ _ w h0 h1 hM hF.f
 exact⟨S',ρ',k1,k2,k3,k4.1,hF.2.mono k1⟩
theorem fm.loop (hC:∀S S' F ρ0,S.le S'->C S F ρ0->C S' F ρ0) {c:Code} {fr:List AV} {M:ai} {Q:bR} {X:Type _} (I:X->Prop) (frI:X->List AV) (MI:X->ai) (μ:X->Nat) (x0:X) (hi:I x0) (hs:aM D fr M (frI x0) (MI x0))
  (h:∀x,I x->fm P rd C D c (frI x) (MI x) (jK D I frI MI μ x Q)):fm P rd C D (.loop c) fr M Q:=by
 refine⟨fun N S F ρ0 ρ a w hN hc h0 h1 hM hF=>?_⟩
 intro b k cs hro hb hr
 have key:∀(n:Nat) (x:X) (S1:ag) (ρ1:aw) (a1:Act) (w1:World),μ x=n->I x->S.le S1->ce w w1->aw.le ρ0 ρ1->ax S1 F ρ1 (MI x) w1->kF N S1 ρ1 a1 (frI x)->
   ∃e a' w',(∃x,BZ e=some x/\fb N S F ρ0 w (Q x) a' w')/\ArrivesIn (Machine.fenced P (ia rd)) P (lone (b.atR a1 (.code c:: .inLoop c::k)) cs w1) b k cs e a' w':=by
  intro n
  induction n using Nat.strongRecOn with
  |_ n ih=>
   intro x S1 ρ1 a1 w1 hn hIx hS hw hρ hM1 hF1
   obtain⟨e,a2,w2,⟨ex,he,f,M',S2,ρ2,kk,k1,k2,k3,k4,k5⟩,harr⟩:=(h x hIx).out N S1 F ρ0 ρ1 a1 w1 (Nat.le_trans hN hw.size) (hC _ _ _ _ hS hc) h0 hρ hM1 hF1 b (.inLoop c::k) cs hro hb hr
   cases e with
   |normal=>
    cases he
    obtain⟨x',hsub,hIx',hlt⟩:=kk
    obtain⟨S3,ρ3,j1,j2,j3,j4⟩:=hsub.g h0 k2 k3 k4
    obtain⟨e3,a3,w3,hq,harr3⟩:=ih (μ x') (hn▸hlt) x' S3 ρ3 a2 w2 rfl hIx' (ag.le_trans hS (ag.le_trans k1 j1)) (hw.trans k5) j2 j3 j4
    exact⟨e3,a3,w3,hq, .of_steps (StepsIn.trans harr (.one (fenced_calm hb hr rfl) stepR_inLoop)) harr3⟩
   |exit i=>cases he;exact⟨_,a2,w2,⟨_,rfl,f,M',S2,ρ2,kk,ag.le_trans hS k1,k2,k3,k4,hw.trans k5⟩, .pass (x:= .inLoop c) rfl (fun _ _=> .inl (by simp)) harr⟩
   |ret=>cases he;exact⟨_,a2,w2,⟨_,rfl,f,M',S2,ρ2,kk,ag.le_trans hS k1,k2,k3,k4,hw.trans k5⟩, .pass (x:= .inLoop c) rfl (fun _ _=> .inl (by simp)) harr⟩
   |goto l=>cases he
   |panic l=>cases he
   |outgrown=>cases he
 obtain⟨S1,ρ1,j1,j2,j3,j4⟩:=hs.g h0 h1 hM hF
 obtain⟨e,a',w',hq,harr⟩:=key _ x0 S1 ρ1 a w rfl hi j1 (ce.refl _) j2 j3 j4
 exact⟨e,a',w',hq, .of_steps (.one (fenced_calm hb hr rfl) stepR_loop) harr⟩
theorem fm.loopF (hT:aW P tt=true) (hm:P.follows .mixedOrders=true) (hC:∀S S' F ρ0,S.le S'->C S F ρ0->C S' F ρ0) {c:Code} {fr:List AV} {M:ai} {Q:bR} {X:Type _} (I:X->Prop) (us:X->List (Nat×AV)) (L:X->List (Nat×aX)) (μ:X->Nat) (x0:X) (hi:I x0)
  (h:mQ (jO c []) fun ms=>ny fr 0 ms fun fr0=>aM D fr M (jh fr0 (us x0)) (ai.ofL (L x0))/\
   ∀x,I x->q6 fr0 (us x) fun fr1=>f9 P tt rd C D c fr1 (ai.ofL (L x)) (jK D I (fun x=>jh fr0 (us x)) (fun x=>ai.ofL (L x)) μ x Q)):fm P rd C D (.loop c) fr M Q:=by
 rw[jP] at h
 obtain⟨fr0,h0,h⟩:=iJ _ _ _ _ h
 refine fm.loop hC I (fun x=>jh fr0 (us x)) (fun x=>ai.ofL (L x)) μ x0 hi h0 fun x hx=>?_
 have:=h x hx
 rw[ll] at this
 exact iR hT hm hC _ _ _ _ this
end
theorem RP.monoC {S S':ag} (h:∀a v,S.cell a=some v->S'.cell a=some v) {v:Value} {u:AV} (hr:RP S v u):RP S' v u:=by
 induction hr with
 |top v=>exact .top v
 |int k n=>exact .int k n
 |bool b=>exact .bool b
 |str s=>exact .str s
 |nilsl=>exact .nilsl
 |val v=>exact .val v
 |sl d enc l base cap sz vals hcap ho hsz hb hn _ ih=>
  exact .sl d enc l base cap sz vals hcap ho hsz (fun i j hi hj=>let ⟨ad,e,hc⟩:=hb i j hi hj;⟨ad,e,h _ _ hc⟩) hn ih
 |slc d enc l base _ ih=>exact .slc d enc l base ih
 |pd cells ad vals hb _ ih=>exact .pd cells ad vals (fun j hj=>h _ _ (hb j hj)) ih
 |fn f caps vs hs vals he _ ih=>exact .fn f caps vs hs vals he ih
 |agg cs vs hs vals he _ ih=>exact .agg cs vs hs vals he ih
 |tup cs vs hs vals he _ ih=>exact .tup cs vs hs vals he ih
theorem RV.monoC {S S':ag} {ρ:aw} (h:∀a v,S.cell a=some v->S'.cell a=some v) {v:Value} {u:AV} (hr:RV S ρ v u):RV S' ρ v u:=by
 induction hr with
 |p hp=>exact .p (hp.monoC h)
 |ptr ℓ off b hb=>exact .ptr ℓ off b hb
 |row ℓ n sz b hb hn hs hz=>exact .row ℓ n sz b hb hn hs hz
 |rel ℓ i off b hb hi=>exact .rel ℓ i off b hb hi
 |part ℓ lo n sz b a c hb hs hn hz hc=>exact .part ℓ lo n sz b a c hb hs hn hz hc
 |mp ℓ b hb=>exact .mp ℓ b hb
 |fn f caps vs hs vals he _ ih=>exact .fn f caps vs hs vals he ih
 |agg cs vs hs vals he _ ih=>exact .agg cs vs hs vals he ih
 |tup cs vs hs vals he _ ih=>exact .tup cs vs hs vals he ih
theorem be.monoC {S S':ag} {ρ:aw} (h:∀a v,S.cell a=some v->S'.cell a=some v) {vs:List Value} {us:List AV} (hr:be S ρ vs us):be S' ρ vs us:=
 ⟨hr.1,fun i u hu=>let ⟨v,e,hv⟩:=hr.2 i u hu;⟨v,e,hv.monoC h⟩⟩
theorem ax.swap {S S' F F':ag} {ρ:aw} {M:ai} {w w':World} (hM:ax S F ρ M w) (hc:∀a v,S.cell a=some v->S'.cell a=some v) (hs:S'.inW w') (hf:F'.inW w') (hd:∀b,S' b=none\/F' b=none)
  (hk:∀k,S k=none->F k=none->k<w.heap.size->w'.heap[k]? =w.heap[k]?/\S' k=none/\F' k=none):ax S' F' ρ M w':=by
 refine⟨hs,hf,hd,hM.dom,fun ℓ B hB=>?_,hM.inj,fun g k l hg j n hn=>hc _ _ (hM.gl g k l hg j n hn)⟩
 obtain⟨b,hb,hr⟩:=hM.blk _ _ hB
 refine⟨b,hb,?_⟩
 have hlv:B.live b->w'.heap[b.blk]? =w.heap[b.blk]?/\S' b.blk=none/\F' b.blk=none:=fun hl=>hk _ (hr.off hl).1 (hr.off hl).2 (hr.lt hl)
 cases B with
 |box t cells=>
  obtain⟨vs,h1,h2,h3,h4⟩:=hr
  obtain⟨e1,e2,e3⟩:=hlv trivial
  exact⟨vs,e1.trans h1,h2.monoC hc,e2,e3⟩
 |row t d enc l=>
  obtain⟨h1,h2,h3⟩:=hr
  refine⟨h1,h2,?_⟩
  rcases h3 with h3|⟨h3,h4,vs,h5,h6,h7,h8,h9⟩
  ·exact .inl h3
  ·obtain⟨e1,e2,e3⟩:=hlv h3
   exact .inr ⟨h3,h4,vs,e1.trans h5,h6,fun i a j u hi hu=>let ⟨v,hv,hp⟩:=h7 i a j u hi hu;⟨v,hv,hp.monoC hc⟩,e2,e3⟩
 |gone d enc l=>exact⟨hr.1,hr.2.monoC hc⟩
 |iter s pos=>
  obtain⟨h1,h2,h3⟩:=hr
  obtain⟨e1,e2,e3⟩:=hlv trivial
  exact⟨e1.trans h1,e2,e3⟩
 |map ek ev l=>
  obtain⟨es,ck,h1,h2,h3,h4⟩:=hr
  obtain⟨e1,e2,e3⟩:=hlv trivial
  exact⟨es,ck,e1.trans h1,h2,e2,e3⟩
 |hdr t g m=>
  obtain⟨l,hlm,hg,h1,h2,h3⟩:=hr
  refine⟨l,hlm,fun i hi=>(hg i hi).monoC hc,h1,h2,?_⟩
  rcases h3 with h3|⟨h3,h4,vs,h5,h6,h7,h8,h9⟩
  ·exact .inl h3
  ·obtain⟨e1,e2,e3⟩:=hlv h3
   exact .inr ⟨h3,h4,vs,e1.trans h5,h6,fun i a j u hi hu=>let ⟨v,hv,hp⟩:=h7 i a j u hi hu;⟨v,hv,hp.monoC hc⟩,e2,e3⟩
 |obj o=>
  obtain⟨h1,h2,h3⟩:=hr
  obtain⟨e1,e2,e3⟩:=hlv trivial
  exact⟨e1.trans h1,e2,e3⟩
 |dead=>trivial
def ag.upd (S:ag) (k:Nat) (o:Option Obj):ag:=fun x=>if x=k then o else S x
theorem ag.upd_eq (S:ag) (k:Nat) (o:Option Obj):S.upd k o k=o:=by simp[ag.upd]
theorem ag.upd_ne (S:ag) {k x:Nat} (o:Option Obj) (h:x≠k):S.upd k o x=S x:=by simp[ag.upd,h]
def lJ:Obj->Bool
 | .cells .. =>true
 |_=>false
theorem mi {w:World} {k:Nat} {o o':Obj} (h:w.heap[k]? =some o) (hc:lJ o=false) (hc':lJ o'=false):ce w (w.putObj k o'):=by
 have hk:k<w.heap.size:=(Array.getElem?_eq_some_iff.1 h).1
 refine⟨rfl,rfl,rfl,Nat.le_refl _,by simp,fun a _=>?_⟩
 unfold World.frozen?
 by_cases e:a.block=k
 ·rw[e,World.putObj_heap_same hk,h]
  have key:∀q:Obj,lJ q=false->(match some q with|some (.cells _ _ (lo,hi))=>decide (lo<=a.off)&&decide (a.off<hi)|_=>false)=false:=by
   intro q hq
   cases q<;>first|rfl|(simp[lJ] at hq;done)
  exact(key o' hc').trans (key o hc).symm
 ·rw[World.putObj_heap_other e]
end
section
theorem A0 {S:ag} {k:Nat} {o:Obj} (h:S k=some o) (hc:lJ o=false) {a:Addr} {v:Value} (hv:S.cell a=some v):a.block≠k:=by
 intro e
 unfold ag.cell at hv
 rw[e,h] at hv
 cases o<;>first|(simp[lJ] at hc;done)|(simp at hv;done)
theorem rY {S:ag} {k:Nat} {o:Option Obj} {a:Addr} (h:a.block≠k):(S.upd k o).cell a=S.cell a:=by
 unfold ag.cell
 rw[ag.upd_ne _ _ h]
theorem ax.unmark {S F:ag} {ρ:aw} {M:ai} {w:World} {D:Nat} (hM:ax S F ρ M w) (hD:S D=some (.deferred (some []))):ax (S.upd D none) F ρ M (w.putObj D (.deferred none)):=by
 have hF:F D=none:=(hM.sf D).resolve_left (by rw[hD];simp)
 refine hM.swap (fun a v hv=>by rw[rY (A0 hD rfl hv)];exact hv) (fun k o hk=>?_) (fun k o hk=>?_) (fun b=>?_) (fun k h1 h2 h3=>?_)
 ·by_cases e:k=D
  ·subst e;rw[ag.upd_eq] at hk;cases hk
  ·rw[ag.upd_ne _ _ e] at hk;rw[World.putObj_heap_other e];exact hM.sw k o hk
 ·have e:k≠D:=fun e=>by rw[e,hF] at hk;cases hk
  rw[World.putObj_heap_other e];exact hM.fw k o hk
 ·by_cases e:b=D
  ·subst e;exact .inl (ag.upd_eq _ _ _)
  ·rw[ag.upd_ne _ _ e];exact hM.sf b
 ·have e:k≠D:=fun e=>by rw[e,hD] at h1;cases h1
  exact⟨World.putObj_heap_other e,by rw[ag.upd_ne _ _ e];exact h1,h2⟩
theorem n9 {P:Program} {fn:Func} {tmps:Array Value} {R:Ending->World->Prop} {N:Nat} {F:ag} {ρ:aw} {M:ai}:∀(Ds:List Nat) (S:ag) (w:World),ax S F ρ M w->Ds.Nodup->(∀D∈Ds,N<=D/\S D=some (.deferred (some [])))->
  (∀S' w',ax S' F ρ M w'->(∀k,k<N->S' k=S k)->(∀a v,S.cell a=some v->S'.cell a=some v)->ce w w'->∃v,(results fn tmps).run P w'= .ok v w'/\R (.returned v) w')->LeavesInM Fence.wide 0 P fn tmps R (Ds.map Fi) .returning w
 |[],S,w,hM,_,_,h=>h S w hM (fun _ _=>rfl) (fun _ _ h=>h) (ce.refl _)
 |D::Ds,S,w,hM,hn,hD,h=>by
  have hd:=hD D List.mem_cons_self
  have hw:=hM.sw D _ hd.2
  have hnn:=List.nodup_cons.1 hn
  refine⟨by simp, .inl ⟨D,_,rfl,run_takeDeferred hw,?_⟩⟩
  refine n9 Ds (S.upd D none) _ (hM.unmark hd.2) hnn.2 (fun D' hD'=>⟨(hD D' (List.mem_cons_of_mem _ hD')).1,?_⟩) (fun S' w' h1 h2 h3 h4=>h S' w' h1 (fun k hk=>?_) (fun a v hv=>h3 _ _ ?_) ((mi hw rfl rfl).trans h4))
  ·rw[ag.upd_ne _ _ (show D'≠D from fun e=>hnn.1 (e▸hD'))];exact(hD D' (List.mem_cons_of_mem _ hD')).2
  ·rw[h2 k hk,ag.upd_ne _ _ (by omega)]
  ·rw[rY (A0 hd.2 rfl hv)];exact hv
structure pD (P:Program) (C:kG) (D:List Nat) (f:FuncId) (args:List AV) (M:ai) (R:AV->ai->Prop):Prop where
 out:lf P f/\∀S F ρ0 ρ vs w,C S F ρ0->gZ ρ0 D->aw.le ρ0 ρ->ax S F ρ M w->be S ρ vs args->Calls P f vs.toArray w (fun e w'=>∃v u M' S' ρ',e= .returned v/\R u M'/\S.le S'/\aw.le ρ0 ρ'/\ax S' F ρ' M' w'/\RV S' ρ' v u/\ce w w')
theorem rZ {S:ag} {w:World} (h:S.inW w) {k:Nat} (hk:w.heap.size<=k):S k=none:=by
 cases e:S k with
 |none=>rfl
 |some o=>
  have:=(Array.getElem?_eq_some_iff.1 (h k o e)).1
  omega
section
variable {P:Program} {tt:TT} {C:kG} {D:List Nat} {M:ai}
theorem CK {S:ag} {ρ:aw} {fn:Func} {vs:List Value} {args:List AV} {N:Nat} (hv:be S ρ vs args):kF N S ρ {tmps:=vs.toArray++Array.replicate (fn.ntmps-vs.toArray.size) undef,defers:=[]} (args++List.replicate (fn.ntmps-args.length) (.tup [])):=by
 have hlen:=hv.1
 refine⟨?_,gF.nil _ _⟩
 have e:(vs.toArray++Array.replicate (fn.ntmps-vs.toArray.size) undef).toList=vs++List.replicate (fn.ntmps-args.length) undef:=by simp[hlen]
 rw[e]
 refine hv.append ⟨by simp,fun i u hu=>?_⟩
 have hi:=(List.getElem?_eq_some_iff.1 hu).1
 simp only[List.length_replicate] at hi
 have hu':u= .tup []:=by
  rw[List.getElem?_replicate] at hu
  simp[hi] at hu
  exact hu.symm
 subst hu'
 exact⟨undef,by simp[hi],RV.tup_mk (be.nil _ _)⟩
theorem zM (hT:aW P tt=true) (hm:P.follows .mixedOrders=true) (hC:∀S S' F ρ0,S.le S'->C S F ρ0->C S' F ρ0) {f:FuncId} {fn:Func} {c:Code} {args:List AV} (hf:P.funcs[f]? =some fn) (hb:fn.body=some c) {Q:bR}
  (h:f9 P tt none C D c (args++List.replicate (fn.ntmps-args.length) (.tup [])) M Q) {S F:ag} {ρ0 ρ:aw} {vs:List Value} {w:World} (hc:C S F ρ0) (h0:gZ ρ0 D) (h1:aw.le ρ0 ρ) (hM:ax S F ρ M w) (hv:be S ρ vs args) {R:Ending->World->Prop}
  (hR:∀(x:LU) fr M' S' ρ' (a':Act) w',Q x fr M'->S.le S'->aw.le ρ0 ρ'->ax S' F ρ' M' w'->be S' ρ' a'.tmps.toList fr->ce w w'->(∀i,x≠ .exit i)/\∃v,(results fn a'.tmps).run P w'= .ok v w'/\R (.returned v) w'):Calls P f vs.toArray w R:=by
 refine callsIn_wide.1 (callsIn_of_wp_marks (F:=Fence.wide) (n:=0) hf hb trivial ?_)
 refine wpIn_mono ((iR (rd:=none) hT hm hC c _ _ _ h).out w.heap.size S F ρ0 ρ _ w (Nat.le_refl _) hc h0 h1 hM (CK hv)) ?_
 rintro e a' w' ⟨x,hx,fr,M',S',ρ',hk,k1,k2,k3,k4,k5⟩
 obtain⟨ht,Ds,hds,hnd,hD⟩:=k4
 have fin:(∀i,x≠ .exit i)/\LeavesInM Fence.wide 0 P fn a'.tmps R a'.defers .returning w':=by
  refine⟨(hR x fr M' S' ρ' a' w' hk k1 k2 k3 ht k5).1,?_⟩
  rw[hds]
  refine n9 (N:=w.heap.size) Ds S' w' k3 hnd hD fun S2 w2 j1 j2 j3 j4=>?_
  refine(hR x fr M' S2 ρ' a' w2 hk (fun k o hk'=>?_) k2 j1 (ht.monoC j3) (k5.trans j4)).2
  have hlt:k<w.heap.size:=(Array.getElem?_eq_some_iff.1 (hM.sw k o hk')).1
  rw[j2 k hlt]
  exact k1 k o hk'
 cases e with
 |normal=>exact fin.2
 |ret=>exact fin.2
 |exit i=>cases hx;exact absurd rfl (fin.1 i)
 |goto l=>cases hx
 |panic l=>cases hx
 |outgrown=>cases hx
theorem pD.intro (hT:aW P tt=true) (hm:P.follows .mixedOrders=true) (hC:∀S S' F ρ0,S.le S'->C S F ρ0->C S' F ρ0) {f:FuncId} {fn:Func} {c:Code} {args:List AV} {R:AV->ai->Prop} (hf:P.funcs[f]? =some fn) (hb:fn.body=some c) (hn:(fn.name== "runtime.NumGoroutine")=false)
  (h:mv args (fn.ntmps-args.length) fun fr=>f9 P tt none C D c fr M (B4 tt fn.results.toList R)):pD P C D f args M R:=by
 rw[kv] at h
 refine⟨jN hf hb hn,fun S F ρ0 ρ vs w hc h0 h1 hM hv=>?_⟩
 refine zM hT hm hC hf hb h hc h0 h1 hM hv fun x fr M' S' ρ' a' w' hk k1 k2 k3 k4 k5=>?_
 have fin:mP tt fr M' fn.results.toList (fun us=>R (fP us) M')->∃v,(results fn a'.tmps).run P w'= .ok v w'/\(∃v0 u M1 S1 ρ1,Ending.returned v= .returned v0/\R u M1/\S.le S1/\aw.le ρ0 ρ1/\ax S1 F ρ1 M1 w'/\RV S1 ρ1 v0 u/\ce w w'):=by
  intro hk
  obtain⟨vs',us,hK,hvs,hl,hr⟩:=jg (a:={a' with defers:=[]}) hT k3 ⟨k4,rfl⟩ _ _ hk
  exact⟨_,fy hr,_,_,M',S',ρ',rfl,hK,k1,k2,k3,jM hvs,k5⟩
 cases x with
 |normal=>exact⟨by simp,fin hk⟩
 |ret=>exact⟨by simp,fin hk⟩
 |exit i=>exact hk.elim
end
end
section
def mW:kG:=fun _ _ _=>True
theorem cX:∀S S' F ρ0,ag.le S S'->mW S F ρ0->mW S' F ρ0:=fun _ _ _ _ _ _=>trivial
section
variable {P:Program} {tt:TT}
theorem ae.introY (hT:aW P tt=true) (hm:P.follows .mixedOrders=true) {f:FuncId} {fn:Func} {c:Code} {args:List AV} {R:AV->Prop} (hf:P.funcs[f]? =some fn) (hb:fn.body=some c) (hn:(fn.name== "runtime.NumGoroutine")=false)
  (h:mv args (fn.ntmps-args.length) fun fr=>f9 P tt none mW [] c fr ai.none (JT tt fn.results.toList R)):ae P f args R:=by
 rw[kv] at h
 rw[eM]
 refine⟨jN hf hb hn,fun S F vs w hg hs hfr hd hv=>?_⟩
 refine zM (ρ0:=fun _=>none) (ρ:=fun _=>none) hT hm cX hf hb h trivial (fun ℓ b hb=>by cases hb) (aw.le_refl _) ⟨hs,hfr,hd,by simp,by simp[ai.none],by simp,hg⟩ (hv.rv _) fun x fr M' S' ρ' a' w' hk k1 k2 k3 k4 k5=>?_
 have fin:(mP tt fr M' fn.results.toList fun us=>jL us M' fun us' _=>R (fP us')/\bX 5 (fP us')=true)->∃v,(results fn a'.tmps).run P w'= .ok v w'/\nn S F w R (.returned v) w':=by
  intro hk
  obtain⟨vs',us,hK,hvs,hl,hr⟩:=jg (a:={a' with defers:=[]}) hT k3 ⟨k4,rfl⟩ _ _ hk
  obtain⟨us',M2,S2,⟨hR,hp⟩,hle,hvs2,hM2⟩:=gN _ _ _ _ _ hK hvs k3
  exact⟨_,fy hr,_,_,S2,rfl,hR,ag.le_trans k1 hle,hM2.sw,hM2.fw,hM2.sf,jI 5 hp (jM hvs2),k5⟩
 cases x with
 |normal=>exact⟨by simp,fin hk⟩
 |ret=>exact⟨by simp,fin hk⟩
 |exit i=>exact hk.elim
end
theorem an.introY {P:Program} {tt:TT} (hT:aW P tt=true) (hm:P.follows .mixedOrders=true) {f:FuncId} {fn:Func} {c:Code} {args:List AV} (L:List (Nat×aX)) {R:AV->ai->Prop} (hf:P.funcs[f]? =some fn) (hb:fn.body=some c) (hn:(fn.name== "runtime.NumGoroutine")=false)
  (h:mv args (fn.ntmps-args.length) fun fr=>f9 P tt none mW (L.map (·.1)) c fr (ai.ofL L) (B4 tt fn.results.toList R)):an P f args (ai.ofL L) R:=by
 rw[kv] at h
 rw[bT]
 refine⟨jN hf hb hn,fun S F ρ vs w hM hv=>?_⟩
 have hD:gZ ρ (L.map (·.1)):=fun ℓ b hb=>by
  have:=hM.dom ℓ b hb
  cases hB:ai.ofL L ℓ with
  |none=>exact absurd hB this
  |some B=>exact List.mem_map_of_mem (f:=(·.1)) (eO hB)
 refine zM (ρ0:=ρ) (ρ:=ρ) hT hm cX hf hb h trivial hD (aw.le_refl _) hM hv fun x fr M' S' ρ' a' w' hk k1 k2 k3 k4 k5=>?_
 have fin:mP tt fr M' fn.results.toList (fun us=>R (fP us) M')->∃v,(results fn a'.tmps).run P w'= .ok v w'/\ld S F ρ w R (.returned v) w':=by
  intro hk
  obtain⟨vs',us,hK,hvs,hl,hr⟩:=jg (a:={a' with defers:=[]}) hT k3 ⟨k4,rfl⟩ _ _ hk
  exact⟨_,fy hr,_,_,M',S',ρ',rfl,hK,k1,k2,k3,jM hvs,k5⟩
 cases x with
 |normal=>exact⟨by simp,fin hk⟩
 |ret=>exact⟨by simp,fin hk⟩
 |exit i=>exact hk.elim
def Fj (lb l:Nat) (r:Loop) (fr:List AV):kG:=fun S _ ρ0=>(∃b,ρ0 lb=some b/\b.blk=l)/\be S ρ0 r.tmps.toList fr
theorem uf (lb l:Nat) (r:Loop) (fr:List AV):∀S S' F ρ0,ag.le S S'->Fj lb l r fr S F ρ0->Fj lb l r fr S' F ρ0:=fun _ _ _ _ h ⟨h1,h2⟩=>⟨h1,h2.mono h (aw.le_refl _)⟩
def pE (r:Loop):Loop:={r with state:= .busy}
def ug (r:Loop):Loop:={r with state:= .done,pending:=some .ret}
theorem ax.putO {S F:ag} {ρ:aw} {M:ai} {w:World} {ℓ:Nat} {b:dU} {o:Obj} (hM:ax S F ρ M w) (hl:M ℓ=some (.obj o)) (hb:ρ ℓ=some b) (o':Obj):ax S F ρ (M.set ℓ (.obj o')) (w.putObj b.blk o'):=by
 obtain⟨b',hb',hh,hS,hF⟩:=hM.blk _ _ hl
 rw[hb] at hb';cases hb'
 have hlt:=cu hh
 refine hM.upd hl hb (fun k hk=>?_) (fun _=>trivial) ⟨World.putObj_heap_same hlt,hS,hF⟩
 rcases hk with hk|hk
 ·exact World.putObj_heap_other hk
 ·exact absurd trivial hk
theorem ax.objAt {S F:ag} {ρ:aw} {M:ai} {w:World} {ℓ:Nat} {b:dU} {o:Obj} (hM:ax S F ρ M w) (hl:M ℓ=some (.obj o)) (hb:ρ ℓ=some b):w.heap[b.blk]? =some o:=by
 obtain⟨b',hb',hh,_,_⟩:=hM.blk _ _ hl
 rw[hb] at hb';cases hb'
 exact hh
section
variable {P:Program} {tt:TT} {D:List Nat} {M:ai}
theorem YS.round (hT:aW P tt=true) (hm:P.follows .mixedOrders=true) {lb l:Nat} {r:Loop} {fr:List AV} {t:Tmp} {u:AV} {K:AV->ai->Prop} (hr1:r.state= .ready) (hr2:r.pending=none) (hr3:r.params=#[t]) {asg bdy:Code} (hr4:r.assign=asg) (hr5:r.body=bdy)
  (hl:M lb=some (.obj (.loop r)))
  (h:uZ fr t u fun fr1=>f9 P tt (some l) mW D asg fr1 M fun e fr2 M2=>match e with
   | .normal=>M2 lb=some (.obj (.loop r))/\f9 P tt (some l) mW D bdy fr2 (M2.set lb (.obj (.loop (pE r)))) fun e _ M3=>M3 lb=some (.obj (.loop (pE r)))/\match e with
    | .normal=>∃L,aM D [] (M3.set lb (.obj (.loop r))) [] (ai.ofL L)/\K (.bool true) (ai.ofL L)
    | .ret=>∃L,aM D [] (M3.set lb (.obj (.loop (ug r)))) [] (ai.ofL L)/\K (.bool false) (ai.ofL L)
    |_=>False
   |_=>False):YS P (Fj lb l r fr) D (.func (.yield l) #[] #[]) [u] M K:=by
 subst hr4;subst hr5
 rw[nu] at h
 refine⟨fun S F ρ0 ρ vs w ⟨⟨b,hb,hbl⟩,hfr⟩ h0 h1 hM hv=>?_⟩
 subst hbl
 obtain⟨v,vs',rfl,hv1,hv2⟩:=hv.cons_inv
 have hvs':vs'=[]:=by have:=hv2.1;simpa using this
 subst hvs'
 have hw:=hM.objAt hl (h1 _ _ hb)
 refine⟨b.blk,r.fn,_,r.assign,r.body,rfl,run_yield hw (by rw[hr3];rfl),?_⟩
 refine roundIn_of_wpIn (F:=Fence.wide) trivial ?_
 have htm:(r.params.zip [v].toArray).foldl (fun tmps (t,a)=>tmps.setIfInBounds t a) r.tmps=r.tmps.setIfInBounds t v:=by rw[hr3];simp
 rw[htm]
 have hG:kF 0 S ρ {tmps:=r.tmps.setIfInBounds t v,defers:=[]} (fr.set t u):=by
  refine⟨?_,gF.nil _ _⟩
  have:=(hfr.mono (ag.le_refl S) h1).set_ t (RV.p (ρ:=ρ) hv1)
  simpa using this
 refine wpIn_mono ((iR (rd:=some b.blk) hT hm cX r.assign _ _ _ h).out 0 S F ρ0 ρ _ w (Nat.zero_le _) trivial h0 h1 hM hG) ?_
 rintro e a1 w1 ⟨x,hx,fr2,M2,S2,ρ2,hk,k1,k2,k3,k4,k5⟩
 cases x with
 |exit i=>exact hk.elim
 |ret=>exact hk.elim
 |normal=>
  have he:e= .normal:=by cases e<;>first|rfl|cases hx
  subst he
  obtain⟨hl2,hk⟩:=hk
  have hw1:=k3.objAt hl2 (k2 _ _ hb)
  refine⟨_,run_beginRound hw1 hr1,?_⟩
  have hM2:=k3.putO hl2 (k2 _ _ hb) (.loop (pE r))
  refine wpIn_mono ((iR (rd:=some b.blk) hT hm cX r.body _ _ _ hk).out 0 S2 F ρ0 ρ2 _ _ (Nat.zero_le _) trivial h0 k2 hM2 k4) ?_
  rintro e a3 w3 ⟨x,hx,fr3,M3,S3,ρ3,⟨hl3,hk3⟩,j1,j2,j3,j4,j5⟩
  have hw3:=j3.objAt hl3 (j2 _ _ hb)
  have fin:∀(o':Loop) (L:List (Nat×aX)) (bv:Bool),aM D [] (M3.set lb (.obj (.loop o'))) [] (ai.ofL L)->K (.bool bv) (ai.ofL L)->∃v' u M' S' ρ',Ending.returned (.bool bv)= .returned v'/\K u M'/\S.le S'/\aw.le ρ0 ρ'/\ax S' F ρ' M' (w3.putObj b.blk (.loop o'))/\RP S' v' u/\ce w (w3.putObj b.blk (.loop o')):=by
   intro o' L bv hsub hK
   have hM4:=j3.putO hl3 (j2 _ _ hb) (.loop o')
   rw[fj] at hsub
   obtain⟨S4,ρ4,q1,q2,q3,_⟩:=hsub S3 F ρ0 ρ3 {tmps:=#[],defers:=[]} _ h0 j2 hM4 ⟨be.nil _ _,rfl⟩
   exact⟨.bool bv, .bool bv,_,S4,ρ4,rfl,hK,ag.le_trans k1 (ag.le_trans j1 q1),q2,q3, .bool _,((k5.trans (mi hw1 rfl rfl)).trans j5).trans (mi hw3 rfl rfl)⟩
  cases x with
  |exit i=>exact hk3.elim
  |normal=>
   have he:e= .normal:=by cases e<;>first|rfl|cases hx
   subst he
   obtain⟨L,hsub,hK⟩:=hk3
   have hrec:({(pE r) with state:=if(none:Option Code).isNone then .ready else .done,pending:=none}:Loop)=r:=by
    obtain⟨a,b,c,d,e,f,g,h⟩:=r
    simp only at hr1 hr2
    subst hr1;subst hr2
    rfl
   have hend:=run_endRound (P:=P) none hw3
   rw[hrec] at hend
   exact⟨_,_,hend,fin r L true hsub hK⟩
  |ret=>
   have he:e= .ret:=by cases e<;>first|rfl|cases hx
   subst he
   obtain⟨L,hsub,hK⟩:=hk3
   have hend:=run_endRound (P:=P) (some .ret) hw3
   exact⟨_,_,hend,fin (ug r) L false hsub hK⟩
end
def r3 (D:List Nat):Nat->AV->Bool
 |0,_=>false
 |n+1, .agg cs=>cs.all (r3 D n)
 |n+1, .tup cs=>cs.all (r3 D n)
 |n+1, .fn _ cs=>cs.all (r3 D n)
 |_+1, .ptr ℓ _=>D.contains ℓ
 |_+1, .row ℓ _ _=>D.contains ℓ
 |_+1, .rel ℓ _ _=>D.contains ℓ
 |_+1, .part ℓ _ _ _=>D.contains ℓ
 |_+1, .mp ℓ=>D.contains ℓ
 |_+1,_=>true
def aw.cut (ρ:aw) (D:List Nat):aw:=fun ℓ=>if D.contains ℓ then ρ ℓ else none
theorem aw.cut_le (ρ:aw) (D:List Nat):aw.le (ρ.cut D) ρ:=fun ℓ b h=>by
 unfold aw.cut at h
 split at h
 ·exact h
 ·cases h
theorem aw.cut_in (ρ:aw) (D:List Nat):gZ (ρ.cut D) D:=fun ℓ b h=>by
 unfold aw.cut at h
 split at h
 ·rename_i hc;simpa using hc
 ·cases h
theorem aw.cut_eq {ρ:aw} {D:List Nat} {ℓ:Nat} (h:D.contains ℓ=true):ρ.cut D ℓ=ρ ℓ:=by unfold aw.cut;rw[if_pos h]
theorem Fk {S:ag} {ρ:aw} {D:List Nat}:∀(n:Nat) {u:AV} {v:Value},r3 D n u=true->RV S ρ v u->RV S (ρ.cut D) v u:=by
 intro n
 induction n with
 |zero=>intro u v h;simp[r3] at h
 |succ n ih=>
  intro u v h hv
  have hl:∀{cs:List AV} {vs:List Value},cs.all (r3 D n)=true->be S ρ vs cs->be S (ρ.cut D) vs cs:=by
   intro cs vs ha hr
   exact⟨hr.1,fun i u hu=>let ⟨v,e,hv⟩:=hr.2 i u hu;⟨v,e,ih (List.all_eq_true.1 ha u (List.mem_of_getElem? hu)) hv⟩⟩
  cases u with
  |agg cs=>
   obtain⟨vs,rfl,hr⟩:=hv.agg_inv
   simpa using RV.agg_mk (hl h hr)
  |tup cs=>
   obtain⟨vs,rfl,hr⟩:=hv.tup_inv
   simpa using RV.tup_mk (hl h hr)
  |fn f cs=>
   obtain⟨vs,rfl,hr⟩:=hv.fn_inv
   simpa using RV.fn_mk f (hl h hr)
  |ptr ℓ o=>
   obtain⟨b,hb,rfl⟩:=hv.ptr_inv
   exact .ptr ℓ o b ((aw.cut_eq h).trans hb)
  |row ℓ m sz=>
   obtain⟨b,hb,hn,hs,hz,rfl⟩:=hv.row_inv
   exact .row ℓ m sz b ((aw.cut_eq h).trans hb) hn hs hz
  |rel ℓ i o=>
   obtain⟨b,hb,hi,rfl⟩:=hv.rel_inv
   exact .rel ℓ i o b ((aw.cut_eq h).trans hb) hi
  |part ℓ lo m sz=>
   obtain⟨b,a,c,hb,h1,h2,h3,h4,rfl⟩:=hv.part_inv
   exact .part ℓ lo m sz b a c ((aw.cut_eq h).trans hb) h1 h2 h3 h4
  |mp ℓ=>
   obtain⟨b,hb,rfl⟩:=hv.mp_inv
   exact .mp ℓ b ((aw.cut_eq h).trans hb)
  |top=>exact .p (.top _)
  |int k n=>rw[hv.int_inv];exact .p (.int _ _)
  |bool b=>rw[hv.bool_inv];exact .p (.bool _)
  |str s=>rw[hv.str_inv];exact .p (.str _)
  |nilsl=>rw[hv.nilsl_inv];exact .p .nilsl
  |val x=>rw[hv.val_inv];exact .p (.val _)
  |sl d enc l=>exact .p hv.sl_inv
  |slc d enc l=>exact .p hv.slc_inv
  |pd c=>exact .p hv.pd_inv
theorem uh {w:World} {o:Obj} (h:lJ o=false):ce w (w.alloc o):=by
 refine⟨rfl,rfl,rfl,Nat.le_refl _,by simp,fun a _=>?_⟩
 unfold World.frozen?
 have e:(w.alloc o).heap[a.block]? =if a.block=w.heap.size then some o else w.heap[a.block]?:=by
  show(w.heap.push o)[a.block]? =_
  rw[Array.getElem?_push]
 rw[e]
 by_cases h1:a.block=w.heap.size
 ·rw[if_pos h1,h1,Array.getElem?_eq_none (Nat.le_refl _)]
  cases o<;>first|rfl|(simp[lJ] at h;done)
 ·rw[if_neg h1]
section
variable {P:Program} {tt:TT}
theorem fm.range {C0:kG} {D0:List Nat} {g:Operand} {t:Tmp} {asg bdy:Code} {fr:List AV} {M:ai} {Q:bR} {gf:FuncId} {caps:List AV} (lb:Nat) (D:List Nat) (K1 K2:ai->Prop)
  (hlb:M lb=none) (hg:dA fr g= .fn gf caps) (hfr:fr.all (r3 D 5)=true) (hD:D0.all (fun ℓ=>D.contains ℓ)=true)
  (hit:∀l r,r.state= .ready->r.pending=none->r.params=#[t]->r.assign=asg->r.body=bdy->pD P (Fj lb l r fr) (lb::D) gf (.val (.func (.yield l) #[] #[])::caps) (M.set lb (.obj (.loop r)))
   (fun _ M'=>(M' lb=some (.obj (.loop r))/\K1 M')\/(M' lb=some (.obj (.loop (ug r)))/\K2 M')))
  (hQ1:∀M',K1 M'->Q .normal fr (M'.set lb .dead)) (hQ2:∀M',K2 M'->Q .ret fr (M'.set lb .dead)):fm P none C0 D0 (.rangeFunc g #[t] asg bdy) fr M Q:=by
 refine⟨fun N S F ρ0 ρ a w hN hc h0 h1 hM hF=>?_⟩
 refine wpIn_rangeFunc fun fn _=>?_
 have hgv:=hF.f.eval g
 have he:({a with defers:=[]}:Act).eval g=a.eval g:=by cases g<;>rfl
 rw[he,hg] at hgv
 obtain⟨cv,hcv,hcaps⟩:=hgv.fn_inv
 let r:Loop:={state:= .ready,pending:=none,fn:=fn,tmps:=a.tmps,params:=#[t],assign:=asg,body:=bdy,defers:=w.heap.size}
 have hspec:=(hit (w.heap.size+1) r rfl rfl rfl rfl rfl).out
 obtain⟨⟨fnn,p1,p2,p3⟩,hspec⟩:=hspec
 let w0:World:=w.alloc (.deferred (some []))
 let w1:World:=w0.alloc (.loop r)
 have hH:∀k,w0.heap[k]? =if k=w.heap.size then some (.deferred (some [])) else w.heap[k]?:=fun k=>by
  show(w.heap.push _)[k]? =_
  rw[Array.getElem?_push]
 have hsz:w0.heap.size=w.heap.size+1:=by show(w.heap.push _).size=_;simp
 have hSn:∀k,w.heap.size<=k->S k=none:=fun k hk=>rZ hM.sw hk
 have hFn:∀k,w.heap.size<=k->F k=none:=fun k hk=>rZ hM.fw hk
 have hSl:∀k o,S k=some o->k<w.heap.size:=fun k o hk=>(Array.getElem?_eq_some_iff.1 (hM.sw k o hk)).1
 have hFl:∀k o,F k=some o->k<w.heap.size:=fun k o hk=>(Array.getElem?_eq_some_iff.1 (hM.fw k o hk)).1
 have hM0:ax (S.upd w.heap.size (some (.deferred (some [])))) F ρ M w0:=by
  refine hM.swap (fun b v hv=>?_) (fun k x hk=>?_) (fun k x hk=>?_) (fun b=>?_) (fun k g1 g2 g3=>?_)
  ·rw[rY]
   ·exact hv
   ·intro e
    unfold ag.cell at hv
    rw[e,hSn _ (Nat.le_refl _)] at hv
    cases hv
  ·by_cases e:k=w.heap.size
   ·subst e
    rw[ag.upd_eq] at hk
    rw[hH,if_pos rfl];exact hk
   ·rw[ag.upd_ne _ _ e] at hk
    rw[hH,if_neg e];exact hM.sw k x hk
  ·have:=hFl k x hk
   rw[hH,if_neg (by omega)];exact hM.fw k x hk
  ·by_cases e:b=w.heap.size
   ·right
    exact hFn _ (by omega)
   ·rw[ag.upd_ne _ _ e];exact hM.sf b
  ·exact⟨by rw[hH,if_neg (by omega)],by rw[ag.upd_ne _ _ (by omega)];exact g1,g2⟩
 have hle:S.le (S.upd w.heap.size (some (.deferred (some [])))):=fun k x hk=>by
  have:=hSl k x hk
  rw[ag.upd_ne _ _ (by omega)];exact hk
 let bl:dU:=⟨w.heap.size+1,0,0,0,false⟩
 have hfresh:ρ lb=none:=hM.fresh hlb
 have hM1:ax (S.upd w.heap.size (some (.deferred (some [])))) F (aw.set ρ lb bl) (M.set lb (.obj (.loop r))) w1:=by
  refine hM0.allocO hlb _ bl _ (fun _=>by show w.heap.size+1=_;rw[hsz]) ⟨?_,?_,?_⟩
  ·show(w0.heap.push _)[w.heap.size+1]? =_
   rw[Array.getElem?_push,hsz,if_pos rfl]
  ·show(S.upd _ _) (w.heap.size+1)=none
   rw[ag.upd_ne _ _ (by omega)];exact hSn _ (by omega)
  ·exact hFn _ (by show w.heap.size<=w.heap.size+1;omega)
 have hcutn:(ρ.cut D) lb=none:=by
  unfold aw.cut
  split
  ·exact hfresh
  ·rfl
 have hcut0:be S (ρ.cut D) a.tmps.toList fr:=⟨hF.1.1,fun i u hu=>let ⟨v,e,hv⟩:=hF.1.2 i u hu;⟨v,e,Fk 5 (List.all_eq_true.1 hfr u (List.mem_of_getElem? hu)) hv⟩⟩
 have hcut:be S (aw.set (ρ.cut D) lb bl) a.tmps.toList fr:=hcut0.mono (ag.le_refl _) (aw.set_le _ hcutn)
 have hin:gZ (aw.set (ρ.cut D) lb bl) (lb::D):=fun ℓ b hb=>by
  by_cases e:ℓ=lb
  ·subst e;exact List.mem_cons_self
  ·rw[aw.set_ne _ _ e] at hb
   exact List.mem_cons_of_mem _ (aw.cut_in ρ D ℓ b hb)
 have hle1:aw.le (aw.set (ρ.cut D) lb bl) (aw.set ρ lb bl):=fun ℓ b hb=>by
  by_cases e:ℓ=lb
  ·subst e;rw[aw.set_eq] at hb⊢;exact hb
  ·rw[aw.set_ne _ _ e] at hb⊢;exact aw.cut_le ρ D ℓ b hb
 refine⟨w.heap.size+1,[Fi w.heap.size],w1,{target:= .fn (.func gf) cv,args:=#[.func (.yield (w.heap.size+1)) #[] #[]]},w1,gf,#[.func (.yield (w.heap.size+1)) #[] #[]]++cv,w1,run_enterLoop_outer fn a.tmps #[t] asg bdy,?_,fun _ _=>trivial,?_,fun hh=>(by cases hh),mG ?_⟩
 ·simp only[resolve,rangeCall,hcv,Deferred.ofValue,Sem.run_pure]
  have e:#[]++Array.map a.eval #[Operand.const (Value.func (Fn.yield (w.heap.size+1)) #[] #[])]=#[Value.func (Fn.yield (w.heap.size+1)) #[] #[]]:=by simp[Act.eval]
  rw[e]
 ·simp only[invoke,callFunc,Sem.run_bind,run_program,p1,p2,p3,Result.andThen_ok,Bool.false_eq_true,if_false]
  rfl
 have harr:(#[.func (.yield (w.heap.size+1)) #[] #[]]++cv)=(.func (.yield (w.heap.size+1)) #[] #[]::cv.toList).toArray:=by apply Array.ext';simp
 rw[harr]
 refine(hspec _ _ (aw.set (ρ.cut D) lb bl) (aw.set ρ lb bl) _ w1 ⟨⟨bl,aw.set_eq _ _ _,rfl⟩,hcut.mono hle (aw.le_refl _)⟩ hin hle1 hM1 (be.cons (.p (.val _)) (hcaps.mono hle (aw.set_le _ hfresh)))).mono ?_
 rintro e w3 ⟨v,u,M',S',ρ',rfl,hK,k1,k2,k3,k4,k5⟩
 have hbl:ρ' lb=some bl:=k2 _ _ (aw.set_eq _ _ _)
 have hρ:aw.le ρ0 ρ':=fun ℓ b hb=>by
  have hb':=h1 ℓ b hb
  have e:ℓ≠lb:=fun e=>by subst e;rw[hfresh] at hb';cases hb'
  refine k2 ℓ b ?_
  rw[aw.set_ne _ _ e]
  exact(aw.cut_eq (List.all_eq_true.1 hD ℓ (h0 ℓ b hb))).trans hb'
 have fin:∀(r2:Loop) (x:LU),M' lb=some (.obj (.loop r2))->Q x fr (M'.set lb .dead)->fb N S F ρ0 w (Q x) {a with defers:=[Fi w.heap.size]++a.defers} (w3.putObj (w.heap.size+1) (.loop {r2 with state:= .exhausted}))/\w3.heap[w.heap.size+1]? =some (.loop r2):=by
  intro r2 x hl hQ
  have hw3:w3.heap[w.heap.size+1]? =some (.loop r2):=k3.objAt hl hbl
  have hM4:ax S' F ρ' (M'.set lb .dead) (w3.putObj (w.heap.size+1) (.loop {r2 with state:= .exhausted})):=by
   refine k3.upd hl hbl (fun k hk=>?_) (fun hh=>hh.elim) trivial
   rcases hk with hk|hk
   ·exact World.putObj_heap_other hk
   ·exact absurd trivial hk
  obtain⟨Ds,d1,d2,d3⟩:=hF.2
  refine⟨⟨fr,_,S',ρ',hQ,ag.le_trans hle k1,hρ,hM4,⟨(hcut.mono hle (aw.le_refl _)).mono k1 k2,w.heap.size::Ds,?_,?_,?_⟩,(((uh rfl).trans (uh rfl)).trans k5).trans (mi hw3 rfl rfl)⟩,hw3⟩
  ·show[Fi w.heap.size]++a.defers=_
   rw[d1];rfl
  ·refine List.nodup_cons.2 ⟨fun hin=>?_,d2⟩
   have:=hSl _ _ (d3 _ hin).2
   omega
  ·intro Dk hk
   rcases List.mem_cons.1 hk with rfl|hk
   ·exact⟨hN,k1 _ _ (ag.upd_eq _ _ _)⟩
   ·exact⟨(d3 Dk hk).1,k1 _ _ (hle _ _ (d3 Dk hk).2)⟩
 rcases hK with ⟨hl,hK⟩|⟨hl,hK⟩
 ·obtain⟨ha,hw3⟩:=fin r .normal hl (hQ1 M' hK)
  exact⟨_,_,run_endLoop hw3 (by simp[r]), .normal,rfl,ha⟩
 ·obtain⟨ha,hw3⟩:=fin (ug r) .ret hl (hQ2 M' hK)
  exact⟨_,_,run_endLoop hw3 (by simp[ug]),wpIn_ret ⟨.ret,rfl,ha⟩⟩
end
theorem fm.sub {P:Program} {rd:Option Nat} {C:kG} {D:List Nat} (hC:∀S S' F ρ0,S.le S'->C S F ρ0->C S' F ρ0) {c:Code} {fr fr':List AV} {M M':ai} {Q:bR} (hs:aM D fr M fr' M') (h:fm P rd C D c fr' M' Q):fm P rd C D c fr M Q:=by
 refine⟨fun N S F ρ0 ρ a w hN hc h0 h1 hM hF=>?_⟩
 obtain⟨S',ρ',k1,k2,k3,k4⟩:=hs.g h0 h1 hM hF
 refine wpIn_mono (h.out N S' F ρ0 ρ' a w hN (hC _ _ _ _ k1 hc) h0 k2 k3 k4) ?_
 rintro e a' w' ⟨x,hx,ha⟩
 exact⟨x,hx,ha.trans k1 (aw.le_refl _) (ce.refl _)⟩
theorem fm.subM {P:Program} {rd:Option Nat} {C:kG} {D:List Nat} (hC:∀S S' F ρ0,S.le S'->C S F ρ0->C S' F ρ0) {c:Code} {fr:List AV} {M M':ai} {Q:bR} (hs:aM D fr M fr M') (h:fm P rd C D c fr M' Q):fm P rd C D c fr M Q:=fm.sub hC hs h
def xS:List AV->(List AV->Prop)->Prop
 |[],k=>k []
 |u::fr,k=>match bX 5 u with
  |true=>xS fr fun r=>k (u::r)
  |false=>xS fr fun r=>k (.top::r)
theorem r4:∀(fr:List AV) (k:List AV->Prop),xS fr k->∃fr1,fr1.all (bX 5)=true/\k fr1
 |[],k,h=>⟨[],rfl,h⟩
 |u::fr,k,h=>by
  unfold xS at h
  split at h
  ·rename_i hp
   obtain⟨r,h1,h2⟩:=r4 fr _ h
   exact⟨_,by simp[hp,h1],h2⟩
  ·obtain⟨r,h1,h2⟩:=r4 fr _ h
   refine⟨_,?_,h2⟩
   simp only[List.all_cons,h1,Bool.and_true]
   rfl
theorem OK {P:Program} {C:kG} {D:List Nat} {v:Value} {args:List AV} {fr:List AV} {M:ai} {K:List AV->AV->ai->Prop} (L1:List (Nat×aX)) (ha:args.all (bX 5)=true) (h:xS fr fun fr1=>aM D fr M fr1 (ai.ofL L1)/\YS P C D v args (ai.ofL L1) (K fr1)):YC P C D v args fr M K:=by
 obtain⟨fr1,h1,h2,h3⟩:=r4 _ _ h
 exact⟨fr1,L1,h2,h1,ha,h3⟩
theorem YS.mono {P:Program} {C:kG} {D:List Nat} {v:Value} {args:List AV} {M:ai} {K K':AV->ai->Prop} (h:YS P C D v args M K) (hk:∀u M,K u M->K' u M):YS P C D v args M K':=by
 refine⟨fun S F ρ0 ρ vs w a b c d e=>?_⟩
 obtain⟨l,fn,tmps,asg,bdy,h1,h2,h3⟩:=h.out S F ρ0 ρ vs w a b c d e
 exact⟨l,fn,tmps,asg,bdy,h1,h2,h3.mono fun e w' ⟨v',u,M',S',ρ',g0,g1,g⟩=>⟨v',u,M',S',ρ',g0,hk _ _ g1,g⟩⟩
theorem pD.mono {P:Program} {C:kG} {D:List Nat} {f:FuncId} {args:List AV} {M:ai} {R R':AV->ai->Prop} (h:pD P C D f args M R) (hr:∀u M,R u M->R' u M):pD P C D f args M R':=by
 refine⟨h.out.1,fun S F ρ0 ρ vs w a b c d e=>(h.out.2 S F ρ0 ρ vs w a b c d e).mono ?_⟩
 rintro e w' ⟨v,u,M',S',ρ',g0,g1,g⟩
 exact⟨v,u,M',S',ρ',g0,hr _ _ g1,g⟩
structure xT (D:List Nat) (L:List (Nat×aX)):Prop where
 chk:(gX (oA L) L&&f5 L (oA L)&&qH (oA L) D)=true
 mem:dK (oA L) 400 (ai.ofL L) L
theorem xT.sub {D:List Nat} {L:List (Nat×aX)} (h:xT D L) {fr fr':List AV} (hf:ge (oA L) 400 fr fr'):aM D fr (ai.ofL L) fr' (ai.ofL L):=aM.id_ 400 h.chk h.mem hf
theorem ai.ofL_cons (k:Nat) (B:aX) (L:List (Nat×aX)):(ai.ofL L).set k B=ai.ofL ((k,B)::L):=by
 funext x
 have e:Nat.beq x k=Nat.beq k x:=by
  rw[Bool.eq_iff_iff]
  constructor<;>intro h<;>(have:=Nat.eq_of_beq_eq_true h;subst this;exact h)
 simp only[ai.set,ai.ofL,e]
 cases Nat.beq k x<;>rfl
end
end Go.Proofs.YtokjgegkhlkopaaGreatDoor
