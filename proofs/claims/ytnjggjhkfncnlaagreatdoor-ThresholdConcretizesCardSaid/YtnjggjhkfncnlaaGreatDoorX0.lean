import Derived.Test.YtnjggjhkfncnlaaGreatDoorY1
set_option linter.unusedVariables false
set_option linter.unusedSimpArgs false
namespace Go.Proofs.YtnjggjhkfncnlaaGreatDoor
def JV:Op->Bool
 |.move _| .fieldAddr _ _ _| .nilCheck _| .indexAddr _ _ _| .build _ _| .field _ _ _| .load _ _| .binOp _ _ _ _ _| .unOp _ _ _| .extract _ _| .assign _=>true
 |_=>false
def Iv (op:Op) (us:List AV):Bool:=match op with
 |.load _ _=>match us with
  |[.pd _]=>true
  |_=>false
 |_=>true
def Ge:Rs->Prop
 |.no=>False
 |.val _=>True
 |.need c _=>c
 |.arith c _ _=>c
 |.cmp _ _=>True
def HD:Rs->AV
 |.no=>.top
 |.val u=>u
 |.need _ u=>u
 |.arith _ k n=>.int k (k.wrap n)
 |.cmp p i=>.bool (@decide p i)
theorem HE {r:Rs} {K:AV->Prop}:fQ r K↔Ge r/\K (HD r):=by
 cases r with
 |no=>simp[fQ,Ge]
 |val u=>simp only[fQ,Ge,HD,bW,true_and]
 |need c u=>simp only[fQ,Ge,HD,bW,bC]
 |arith c k n=>simp only[fQ,Ge,HD,dy]
 |cmp p i=>simp only[fQ,Ge,HD,gV,true_and]
def C4 (all:List Oper) (q:Nat):Bool:=match all[q]? with
 |none=>false
 |some o=>match o.dst with
  |none=>false
  |some d=>JV o.op&&o.guard.isNone&&(List.range all.length).all fun j=>Nat.beq j q||match all[j]? with
   |none=>true
   |some x=>x.guard.isNone&&vD d x.dst&&(!(eN d (aJ x.op))||fN x q)&&(match x.dst with|none=>true|some e=>!(eN e (aJ o.op))||fN o j)
def Je (all:List Oper) (q:Nat) (fr:List AV) (k1 k2:Prop):Prop:=match all[q]? with
 |none=>k2
 |some o=>wv fr (aJ o.op) fun us=>match Iv o.op us with
  |true=>k1
  |false=>k2
def oi (P:Program) (tt:TT) (d:Option aM) (all:List Oper) (qs:List Nat) (K:List AV->aj->Prop):Nat->List Nat->List AV->aj->Prop
 |0,done,fr,M=>match cC all done with
  |[]=>K fr M
  |_::_=>False
 |n+1,done,fr,M=>match cC all done with
  |[]=>K fr M
  |i::l=>match tu qs (i::l) with
   |none=>lJ (i::l) fun j=>v4 P tt d all j fr M (oi P tt d all qs K n (j::done))
   |some q=>Je all q fr (v4 P tt d all q fr M (oi P tt d all qs K n (q::done))) (lJ (i::l) fun j=>v4 P tt d all j fr M (oi P tt d all qs K n (j::done)))
section
variable {P:Program} {tt:TT} {dm:Option aM} {all:List Oper} {K K':List AV->aj->Prop} {fr:List AV} {M:aj}
theorem HF {o:Oper} {us:List AV} {K':AV->aj->Prop} (hdm:dm=none\/dm=some .own) (hq:JV o.op=true) (hr:Iv o.op us=true):bc P tt dm o us M K'↔Ge (Dc tt o.op us)/\K' (HD (Dc tt o.op us)) M:=by
 have hs:bc P tt dm o us M K'=fQ (Dc tt o.op us) fun u=>K' u M:=by
  unfold bc
  unfold JV at hq
  split at hq
  all_goals first
   |(rename_i e;rw[e];rcases hdm with rfl|rfl<;>rfl)
   |exact absurd hq (by decide)
   |(rename_i e;rw[e] at hr⊢
     unfold Iv at hr
     split at hr
     ·rename_i e2
      cases e2
      split at hr
      ·rcases hdm with rfl|rfl<;>rfl
      ·cases hr
     ·rename_i hh
      exact absurd rfl (hh _ _))
 rw[hs]
 exact HE
theorem tw {o:Oper} {d:Nat} (hdm:dm=none\/dm=some .own) (hg:o.guard=none) (hd:o.dst=some d) (hq:JV o.op=true) (hr:Iv o.op ((aJ o.op).map (db fr))=true):bN P tt dm all o fr M K↔Ge (Dc tt o.op ((aJ o.op).map (db fr)))/\K (fr.set d (HD (Dc tt o.op ((aJ o.op).map (db fr))))) M:=by
 unfold bN jw
 rw[hg]
 simp only[eU,eT,hd,cB]
 exact HF hdm hq hr
theorem Fq (hdm:dm=none\/dm=some .own) {q:Nat} {o:Oper} {d:Nat} (hok:C4 all q=true) (ho:all[q]? =some o) (hd:o.dst=some d):∀(n:Nat) (done:List Nat) (fr:List AV) (M:aj),q∈cC all done->Iv o.op ((aJ o.op).map (db fr))=true->
  (bd P tt dm all K (n+1) done fr M↔v4 P tt dm all q fr M (bd P tt dm all K n (q::done))):=by
 unfold C4 at hok
 rw[ho] at hok
 simp only[hd,Bool.and_eq_true,Option.isNone_iff_eq_none] at hok
 obtain⟨⟨hqt,hg⟩,hall⟩:=hok
 have hpair:∀j x,all[j]? =some x->j≠q->x.guard=none/\vD d x.dst=true/\(eN d (aJ x.op)=false\/fN x q=true)/\∀e,x.dst=some e->eN e (aJ o.op)=false\/fN o j=true:=fun j x hx hne=>by
  have hj:j<all.length:=by
   rcases Nat.lt_or_ge j all.length with h|h
   ·exact h
   ·rw[List.getElem?_eq_none h] at hx;cases hx
  have:=List.all_eq_true.1 hall j (List.mem_range.2 hj)
  rw[hx] at this
  have hb:Nat.beq j q=false:=by cases h:Nat.beq j q with|false=>rfl|true=>exact absurd (Nat.eq_of_beq_eq_true h) hne
  simp only[hb,Bool.false_or,Bool.and_eq_true,Option.isNone_iff_eq_none,Bool.or_eq_true,Bool.not_eq_true'] at this
  obtain⟨⟨⟨h1,h2⟩,h3⟩,h4⟩:=this
  refine⟨h1,h2,h3,fun e he=>?_⟩
  rw[he] at h4
  simpa using h4
 have edge:∀{x:Oper} {k:Nat} {done:List Nat},fN x k=true->(∀e∈x.after.toList,Region.binds .any e=true->e.on<all.length/\e.on∈done)->k∈done:=fun{x k done} he h=>by
  unfold fN at he
  obtain⟨e,hm,hb⟩:=List.any_eq_true.1 he
  rw[Bool.and_eq_true] at hb
  have:=(h e hm hb.1).2
  rwa [Nat.eq_of_beq_eq_true hb.2] at this
 intro n
 induction n with
 |zero=>
  intro done fr M hq hu
  have hne:cC all done≠[]:=List.ne_nil_of_mem hq
  rw[d8 hne]
  refine⟨fun h=>h q hq,fun h j hj=>?_⟩
  by_cases e:j=q
  ·subst e;exact h
  ·exfalso
   have hj2:j∈cC all (q::done):=by
    rw[cG] at hj⊢
    obtain⟨h1,x,hx,h2⟩:=hj
    exact⟨fun h=>by rcases List.mem_cons.1 h with h|h;exact e h;exact h1 h,x,hx,fun e he hb=>⟨(h2 e he hb).1,List.mem_cons_of_mem _ (h2 e he hb).2⟩⟩
   rw[cl ho,tw hdm hg hd hqt hu] at h
   have h:=h.2
   rw[bd] at h
   cases hr:cC all (q::done) with
   |nil=>rw[hr] at hj2;cases hj2
   |cons a l=>rw[hr] at h;exact h
 |succ m ih=>
  intro done fr M hq hu
  have hne:cC all done≠[]:=List.ne_nil_of_mem hq
  rw[d8 hne]
  refine⟨fun h=>h q hq,fun h j hj=>?_⟩
  by_cases e:j=q
  ·subst e;exact h
  ·have hG:=h
   rw[cl ho,tw hdm hg hd hqt hu] at hG
   obtain⟨hP,hG⟩:=hG
   have hj':=cG.1 hj
   have hq':=cG.1 hq
   obtain⟨h1,x,hx,h2⟩:=hj'
   obtain⟨g1,o',ho',g2⟩:=hq'
   rw[ho] at ho';cases ho'
   obtain⟨p1,p2,p3,p4⟩:=hpair j x hx e
   have hj2:j∈cC all (q::done):=cG.2 ⟨fun h=>by rcases List.mem_cons.1 h with h|h;exact e h;exact h1 h,x,hx,fun e he hb=>⟨(h2 e he hb).1,List.mem_cons_of_mem _ (h2 e he hb).2⟩⟩
   have hq2:q∈cC all (j::done):=cG.2 ⟨fun h=>by rcases List.mem_cons.1 h with h|h;exact e h.symm;exact g1 h,o,ho,fun e he hb=>⟨(g2 e he hb).1,List.mem_cons_of_mem _ (g2 e he hb).2⟩⟩
   have hux:eN d (aJ x.op)=false:=p3.resolve_right fun he=>g1 (edge he h2)
   have h3:=(d8 (List.ne_nil_of_mem hj2)).1 hG j hj2
   rw[cl hx,nJ p1 p2 hux] at h3
   rw[cl hx]
   refine Eq.mp (kJ p1 fun w M'=>?_) h3
   rw[jL m (j::q::done) (q::j::done) fun i=>by simp only[List.mem_cons];exact⟨fun h=>by rcases h with h|h|h<;>simp[h],fun h=>by rcases h with h|h|h<;>simp[h]⟩]
   have hus:(aJ o.op).map (db (cB fr x.dst w))=(aJ o.op).map (db fr):=by
    cases hxd:x.dst with
    |none=>rfl
    |some e2=>
     have:eN e2 (aJ o.op)=false:=(p4 e2 hxd).resolve_right fun he=>h1 (edge he g2)
     exact ji this
   have h4:=ih (j::done) (cB fr x.dst w) M' hq2 (by rw[hus];exact hu)
   rw[cl ho,tw hdm hg hd hqt (by rw[hus];exact hu),hus] at h4
   exact propext ⟨fun hh=>h4.2 ⟨hP,hh⟩,fun hh=>(h4.1 hh).2⟩
theorem vH (hdm:dm=none\/dm=some .own) {qs:List Nat} (hqs:qs.all (C4 all)=true):∀(n:Nat) (done:List Nat),oi P tt dm all qs K n done=bd P tt dm all K n done
 |0,done=>by
  funext fr M
  rw[oi,bd]
  cases cC all done<;>rfl
 |n+1,done=>by
  funext fr M
  have e:∀j,oi P tt dm all qs K n (j::done)=bd P tt dm all K n (j::done):=fun j=>vH hdm hqs n _
  rw[oi]
  simp only[e]
  cases hr:cC all done with
  |nil=>rw[bd,hr]
  |cons i l=>
   have hk:bd P tt dm all K (n+1) done fr M=lJ (i::l) fun j=>v4 P tt dm all j fr M (bd P tt dm all K n (j::done)):=by rw[bd,hr]
   simp only
   cases hf:tu qs (i::l) with
   |none=>exact hk.symm
   |some q=>
    simp only
    obtain⟨h1,h2⟩:=mK hf
    have hok:=List.all_eq_true.1 hqs q h1
    rw[<-hk]
    unfold Je
    cases ho:all[q]? with
    |none=>rfl
    |some o=>
     simp only[eU]
     cases hu:Iv o.op ((aJ o.op).map (db fr)) with
     |false=>rfl
     |true=>
      simp only
      have hok':=hok
      unfold C4 at hok'
      rw[ho] at hok'
      cases hd:o.dst with
      |none=>simp only[hd] at hok';cases hok'
      |some d=>exact propext (Fq hdm hok ho hd n done fr M (by rw[hr];exact h2) hu).symm
end
theorem f7 {P:Program} {tt:TT} {ops:List Oper} {fr:List AV} {M:aj} {K:List AV->aj->Prop} (qs:List Nat) (hqs:qs.all (C4 ops)=true) (h:oi P tt (some .own) ops qs K ops.length [] fr M):fL P tt ops fr M K:=
 mn (by rw[vH (.inr rfl) hqs] at h;exact h)
end Go.Proofs.YtnjggjhkfncnlaaGreatDoor
namespace Go.Proofs.YtnjggjhkfncnlaaGreatDoor
section
variable {P:Program} {tt:TT} {all:List Oper} {K K':List AV->aj->Prop} {fr:List AV} {M:aj}
end
end Go.Proofs.YtnjggjhkfncnlaaGreatDoor
