import Derived.Test.YtekmminpfhacpaaGreatDoorY1
set_option linter.unusedVariables false
set_option linter.unusedSimpArgs false
namespace Go.Proofs.YtekmminpfhacpaaGreatDoor
section
def Pr:Op->Bool
 |.move _| .fieldAddr _ _ _| .nilCheck _| .indexAddr _ _ _| .build _ _| .field _ _ _| .load _ _| .binOp _ _ _ _ _| .unOp _ _ _| .extract _ _| .assign _=>true
 |_=>false
def ND (op:Op) (us:List AV):Bool:=match op with
 |.load _ _=>match us with
  |[.pd _]=>true
  |_=>false
 |_=>true
def KX:Rs->Prop
 |.no=>False
 |.val _=>True
 |.need c _=>c
 |.arith c _ _=>c
 |.cmp _ _=>True
def Mz:Rs->AV
 |.no=>.top
 |.val u=>u
 |.need _ u=>u
 |.arith _ k n=>.int k (k.wrap n)
 |.cmp p i=>.bool (@decide p i)
theorem MA {r:Rs} {K:AV->Prop}:gY r K↔KX r/\K (Mz r):=by
 cases r with
 |no=>simp[gY,KX]
 |val u=>simp only[gY,KX,Mz,b7,true_and]
 |need c u=>simp only[gY,KX,Mz,b7,bW]
 |arith c k n=>simp only[gY,KX,Mz,eT]
 |cmp p i=>simp only[gY,KX,Mz,kq,true_and]
def G9 (all:List Oper) (q:Nat):Bool:=match all[q]? with
 |none=>false
 |some o=>match o.dst with
  |none=>false
  |some d=>Pr o.op&&o.guard.isNone&&(List.range all.length).all fun j=>Nat.beq j q||match all[j]? with
   |none=>true
   |some x=>x.guard.isNone&&zt d x.dst&&(!(fO d (aG x.op))||gT x q)&&(match x.dst with|none=>true|some e=>!(fO e (aG o.op))||gT o j)
def OA (all:List Oper) (q:Nat) (fr:List AV) (k1 k2:Prop):Prop:=match all[q]? with
 |none=>k2
 |some o=>AP fr (aG o.op) fun us=>match ND o.op us with
  |true=>k1
  |false=>k2
def ro (P:Program) (tt:TT) (d:Option aL) (all:List Oper) (qs:List Nat) (K:List AV->ag->Prop):Nat->List Nat->List AV->ag->Prop
 |0,done,fr,M=>match c6 all done with
  |[]=>K fr M
  |_::_=>False
 |n+1,done,fr,M=>match c6 all done with
  |[]=>K fr M
  |i::l=>match xq qs (i::l) with
   |none=>ob (i::l) fun j=>An P tt d all j fr M (ro P tt d all qs K n (j::done))
   |some q=>OA all q fr (An P tt d all q fr M (ro P tt d all qs K n (q::done))) (ob (i::l) fun j=>An P tt d all j fr M (ro P tt d all qs K n (j::done)))
section
variable {P:Program} {tt:TT} {dm:Option aL} {all:List Oper} {K K':List AV->ag->Prop} {fr:List AV} {M:ag}
theorem MB {o:Oper} {us:List AV} {K':AV->ag->Prop} (hdm:dm=none\/dm=some .own) (hq:Pr o.op=true) (hr:ND o.op us=true):aZ P tt dm o us M K'↔KX (Hi tt o.op us)/\K' (Mz (Hi tt o.op us)) M:=by
 have hs:aZ P tt dm o us M K'=gY (Hi tt o.op us) fun u=>K' u M:=by
  unfold aZ
  unfold Pr at hq
  split at hq
  all_goals first
   |(rename_i e;rw[e];rcases hdm with rfl|rfl<;>rfl)
   |exact absurd hq (by decide)
   |(rename_i e;rw[e] at hr⊢
     unfold ND at hr
     split at hr
     ·rename_i e2
      cases e2
      split at hr
      ·rcases hdm with rfl|rfl<;>rfl
      ·cases hr
     ·rename_i hh
      exact absurd rfl (hh _ _))
 rw[hs]
 exact MA
theorem xu {o:Oper} {d:Nat} (hdm:dm=none\/dm=some .own) (hg:o.guard=none) (hd:o.dst=some d) (hq:Pr o.op=true) (hr:ND o.op ((aG o.op).map (cY fr))=true):b8 P tt dm all o fr M K↔KX (Hi tt o.op ((aG o.op).map (cY fr)))/\K (fr.set d (Mz (Hi tt o.op ((aG o.op).map (cY fr))))) M:=by
 unfold b8 kY
 rw[hg]
 simp only[fS,fj,hd,cA]
 exact MB hdm hq hr
theorem J6 (hdm:dm=none\/dm=some .own) {q:Nat} {o:Oper} {d:Nat} (hok:G9 all q=true) (ho:all[q]? =some o) (hd:o.dst=some d):∀(n:Nat) (done:List Nat) (fr:List AV) (M:ag),q∈c6 all done->ND o.op ((aG o.op).map (cY fr))=true->
  (br P tt dm all K (n+1) done fr M↔An P tt dm all q fr M (br P tt dm all K n (q::done))):=by
 unfold G9 at hok
 rw[ho] at hok
 simp only[hd,Bool.and_eq_true,Option.isNone_iff_eq_none] at hok
 obtain⟨⟨hqt,hg⟩,hall⟩:=hok
 have hpair:∀j x,all[j]? =some x->j≠q->x.guard=none/\zt d x.dst=true/\(fO d (aG x.op)=false\/gT x q=true)/\∀e,x.dst=some e->fO e (aG o.op)=false\/gT o j=true:=fun j x hx hne=>by
  have hj:j<all.length:=by
   rcases Nat.lt_or_ge j all.length with h|h
   ·exact h
   ·rw[List.getElem?_eq_none h] at hx;cases hx
  have:=List.all_eq_true.1 hall j (List.mem_range.2 hj)
  rw[hx] at this
  have hb:Nat.beq j q=false:=by cases h:Nat.beq j q with|false=>rfl|true=>exact absurd (Nat.eq_of_beq_eq_true h) hne
  simp only[hb,Bool.false_or,Bool.and_eq_true,Option.isNone_iff_eq_none,Bool.or_eq_true,Bool.not_eq_true'] at this
  obtain⟨⟨⟨h1,h2⟩,h3⟩,h4⟩:=this
  refine⟨h1,h2,h3,fun e he=>?_⟩
  rw[he] at h4
  simpa using h4
 have edge:∀{x:Oper} {k:Nat} {done:List Nat},gT x k=true->(∀e∈x.after.toList,Region.binds .any e=true->e.on<all.length/\e.on∈done)->k∈done:=fun{x k done} he h=>by
  unfold gT at he
  obtain⟨e,hm,hb⟩:=List.any_eq_true.1 he
  rw[Bool.and_eq_true] at hb
  have:=(h e hm hb.1).2
  rwa [Nat.eq_of_beq_eq_true hb.2] at this
 intro n
 induction n with
 |zero=>
  intro done fr M hq hu
  have hne:c6 all done≠[]:=List.ne_nil_of_mem hq
  rw[fv hne]
  refine⟨fun h=>h q hq,fun h j hj=>?_⟩
  by_cases e:j=q
  ·subst e;exact h
  ·exfalso
   have hj2:j∈c6 all (q::done):=by
    rw[dc] at hj⊢
    obtain⟨h1,x,hx,h2⟩:=hj
    exact⟨fun h=>by rcases List.mem_cons.1 h with h|h;exact e h;exact h1 h,x,hx,fun e he hb=>⟨(h2 e he hb).1,List.mem_cons_of_mem _ (h2 e he hb).2⟩⟩
   rw[cJ ho,xu hdm hg hd hqt hu] at h
   have h:=h.2
   rw[br] at h
   cases hr:c6 all (q::done) with
   |nil=>rw[hr] at hj2;cases hj2
   |cons a l=>rw[hr] at h;exact h
 |succ m ih=>
  intro done fr M hq hu
  have hne:c6 all done≠[]:=List.ne_nil_of_mem hq
  rw[fv hne]
  refine⟨fun h=>h q hq,fun h j hj=>?_⟩
  by_cases e:j=q
  ·subst e;exact h
  ·have hG:=h
   rw[cJ ho,xu hdm hg hd hqt hu] at hG
   obtain⟨hP,hG⟩:=hG
   have hj':=dc.1 hj
   have hq':=dc.1 hq
   obtain⟨h1,x,hx,h2⟩:=hj'
   obtain⟨g1,o',ho',g2⟩:=hq'
   rw[ho] at ho';cases ho'
   obtain⟨p1,p2,p3,p4⟩:=hpair j x hx e
   have hj2:j∈c6 all (q::done):=dc.2 ⟨fun h=>by rcases List.mem_cons.1 h with h|h;exact e h;exact h1 h,x,hx,fun e he hb=>⟨(h2 e he hb).1,List.mem_cons_of_mem _ (h2 e he hb).2⟩⟩
   have hq2:q∈c6 all (j::done):=dc.2 ⟨fun h=>by rcases List.mem_cons.1 h with h|h;exact e h.symm;exact g1 h,o,ho,fun e he hb=>⟨(g2 e he hb).1,List.mem_cons_of_mem _ (g2 e he hb).2⟩⟩
   have hux:fO d (aG x.op)=false:=p3.resolve_right fun he=>g1 (edge he h2)
   have h3:=(fv (List.ne_nil_of_mem hj2)).1 hG j hj2
   rw[cJ hx,qC p1 p2 hux] at h3
   rw[cJ hx]
   refine Eq.mp (mK p1 fun w M'=>?_) h3
   rw[lz m (j::q::done) (q::j::done) fun i=>by simp only[List.mem_cons];exact⟨fun h=>by rcases h with h|h|h<;>simp[h],fun h=>by rcases h with h|h|h<;>simp[h]⟩]
   have hus:(aG o.op).map (cY (cA fr x.dst w))=(aG o.op).map (cY fr):=by
    cases hxd:x.dst with
    |none=>rfl
    |some e2=>
     have:fO e2 (aG o.op)=false:=(p4 e2 hxd).resolve_right fun he=>h1 (edge he g2)
     exact kB this
   have h4:=ih (j::done) (cA fr x.dst w) M' hq2 (by rw[hus];exact hu)
   rw[cJ ho,xu hdm hg hd hqt (by rw[hus];exact hu),hus] at h4
   exact propext ⟨fun hh=>h4.2 ⟨hP,hh⟩,fun hh=>(h4.1 hh).2⟩
theorem zy (hdm:dm=none\/dm=some .own) {qs:List Nat} (hqs:qs.all (G9 all)=true):∀(n:Nat) (done:List Nat),ro P tt dm all qs K n done=br P tt dm all K n done
 |0,done=>by
  funext fr M
  rw[ro,br]
  cases c6 all done<;>rfl
 |n+1,done=>by
  funext fr M
  have e:∀j,ro P tt dm all qs K n (j::done)=br P tt dm all K n (j::done):=fun j=>zy hdm hqs n _
  rw[ro]
  simp only[e]
  cases hr:c6 all done with
  |nil=>rw[br,hr]
  |cons i l=>
   have hk:br P tt dm all K (n+1) done fr M=ob (i::l) fun j=>An P tt dm all j fr M (br P tt dm all K n (j::done)):=by rw[br,hr]
   simp only
   cases hf:xq qs (i::l) with
   |none=>exact hk.symm
   |some q=>
    simp only
    obtain⟨h1,h2⟩:=pA hf
    have hok:=List.all_eq_true.1 hqs q h1
    rw[<-hk]
    unfold OA
    cases ho:all[q]? with
    |none=>rfl
    |some o=>
     simp only[fS]
     cases hu:ND o.op ((aG o.op).map (cY fr)) with
     |false=>rfl
     |true=>
      simp only
      have hok':=hok
      unfold G9 at hok'
      rw[ho] at hok'
      cases hd:o.dst with
      |none=>simp only[hd] at hok';cases hok'
      |some d=>exact propext (J6 hdm hok ho hd n done fr M (by rw[hr];exact h2) hu).symm
end
theorem mO {P:Program} {tt:TT} {ops:List Oper} {fr:List AV} {M:ag} {K:List AV->ag->Prop} (qs:List Nat) (hqs:qs.all (G9 ops)=true) (h:ro P tt (some .own) ops qs K ops.length [] fr M):gQ P tt ops fr M K:=
 nU (by rw[zy (.inr rfl) hqs] at h;exact h)
end
section
section
variable {P:Program} {tt:TT} {all:List Oper} {K K':List AV->ag->Prop} {fr:List AV} {M:ag}
end
end
end Go.Proofs.YtekmminpfhacpaaGreatDoor
