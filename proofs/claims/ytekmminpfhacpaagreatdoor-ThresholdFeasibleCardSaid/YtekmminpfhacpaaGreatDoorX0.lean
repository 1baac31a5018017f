import Derived.Test.YtekmminpfhacpaaGreatDoorY1
set_option linter.unusedVariables false
set_option linter.unusedSimpArgs false
namespace Go.Proofs.YtekmminpfhacpaaGreatDoor
section
def Rf:Op->Bool
 |.move _| .fieldAddr _ _ _| .nilCheck _| .indexAddr _ _ _| .build _ _| .field _ _ _| .load _ _| .binOp _ _ _ _ _| .unOp _ _ _| .extract _ _| .assign _=>true
 |_=>false
def PM (op:Op) (us:List AV):Bool:=match op with
 |.load _ _=>match us with
  |[.pd _]=>true
  |_=>false
 |_=>true
def MD:Rs->Prop
 |.no=>False
 |.val _=>True
 |.need c _=>c
 |.arith c _ _=>c
 |.cmp _ _=>True
def Oy:Rs->AV
 |.no=>.top
 |.val u=>u
 |.need _ u=>u
 |.arith _ k n=>.int k (k.wrap n)
 |.cmp p i=>.bool (@decide p i)
theorem Oz {r:Rs} {K:AV->Prop}:gH r K↔MD r/\K (Oy r):=by
 cases r with
 |no=>simp[gH,MD]
 |val u=>simp only[gH,MD,Oy,bH,true_and]
 |need c u=>simp only[gH,MD,Oy,bH,bA]
 |arith c k n=>simp only[gH,MD,Oy,eD]
 |cmp p i=>simp only[gH,MD,Oy,jc,true_and]
def HV (all:List Oper) (q:Nat):Bool:=match all[q]? with
 |none=>false
 |some o=>match o.dst with
  |none=>false
  |some d=>Rf o.op&&o.guard.isNone&&(List.range all.length).all fun j=>Nat.beq j q||match all[j]? with
   |none=>true
   |some x=>x.guard.isNone&&zn d x.dst&&(!(fu d (aF x.op))||gz x q)&&(match x.dst with|none=>true|some e=>!(fu e (aF o.op))||gz o j)
def Qy (all:List Oper) (q:Nat) (fr:List AV) (k1 k2:Prop):Prop:=match all[q]? with
 |none=>k2
 |some o=>AN fr (aF o.op) fun us=>match PM o.op us with
  |true=>k1
  |false=>k2
def rz (P:Program) (tt:TT) (d:Option aG) (all:List Oper) (qs:List Nat) (K:List AV->ac->Prop):Nat->List Nat->List AV->ac->Prop
 |0,done,fr,M=>match cI all done with
  |[]=>K fr M
  |_::_=>False
 |n+1,done,fr,M=>match cI all done with
  |[]=>K fr M
  |i::l=>match xj qs (i::l) with
   |none=>oq (i::l) fun j=>Al P tt d all j fr M (rz P tt d all qs K n (j::done))
   |some q=>Qy all q fr (Al P tt d all q fr M (rz P tt d all qs K n (q::done))) (oq (i::l) fun j=>Al P tt d all j fr M (rz P tt d all qs K n (j::done)))
section
variable {P:Program} {tt:TT} {dm:Option aG} {all:List Oper} {K K':List AV->ac->Prop} {fr:List AV} {M:ac}
theorem OA {o:Oper} {us:List AV} {K':AV->ac->Prop} (hdm:dm=none\/dm=some .own) (hq:Rf o.op=true) (hr:PM o.op us=true):aZ P tt dm o us M K'↔MD (H6 tt o.op us)/\K' (Oy (H6 tt o.op us)) M:=by
 have hs:aZ P tt dm o us M K'=gH (H6 tt o.op us) fun u=>K' u M:=by
  unfold aZ
  unfold Rf at hq
  split at hq
  all_goals first
   |(rename_i e;rw[e];rcases hdm with rfl|rfl<;>rfl)
   |exact absurd hq (by decide)
   |(rename_i e;rw[e] at hr⊢
     unfold PM at hr
     split at hr
     ·rename_i e2
      cases e2
      split at hr
      ·rcases hdm with rfl|rfl<;>rfl
      ·cases hr
     ·rename_i hh
      exact absurd rfl (hh _ _))
 rw[hs]
 exact Oz
theorem xl {o:Oper} {d:Nat} (hdm:dm=none\/dm=some .own) (hg:o.guard=none) (hd:o.dst=some d) (hq:Rf o.op=true) (hr:PM o.op ((aF o.op).map (cC fr))=true):bI P tt dm all o fr M K↔MD (H6 tt o.op ((aF o.op).map (cC fr)))/\K (fr.set d (Oy (H6 tt o.op ((aF o.op).map (cC fr))))) M:=by
 unfold bI kZ
 rw[hg]
 simp only[fA,eU,hd,b8]
 exact OA hdm hq hr
theorem Lm (hdm:dm=none\/dm=some .own) {q:Nat} {o:Oper} {d:Nat} (hok:HV all q=true) (ho:all[q]? =some o) (hd:o.dst=some d):∀(n:Nat) (done:List Nat) (fr:List AV) (M:ac),q∈cI all done->PM o.op ((aF o.op).map (cC fr))=true->
  (be P tt dm all K (n+1) done fr M↔Al P tt dm all q fr M (be P tt dm all K n (q::done))):=by
 unfold HV at hok
 rw[ho] at hok
 simp only[hd,Bool.and_eq_true,Option.isNone_iff_eq_none] at hok
 obtain⟨⟨hqt,hg⟩,hall⟩:=hok
 have hpair:∀j x,all[j]? =some x->j≠q->x.guard=none/\zn d x.dst=true/\(fu d (aF x.op)=false\/gz x q=true)/\∀e,x.dst=some e->fu e (aF o.op)=false\/gz o j=true:=fun j x hx hne=>by
  have hj:j<all.length:=by
   rcases Nat.lt_or_ge j all.length with h|h
   ·exact h
   ·rw[List.getElem?_eq_none h] at hx;cases hx
  have:=List.all_eq_true.1 hall j (List.mem_range.2 hj)
  rw[hx] at this
  have hb:Nat.beq j q=false:=by cases h:Nat.beq j q with|false=>rfl|true=>exact absurd (Nat.eq_of_beq_eq_true h) hne
  simp only[hb,Bool.false_or,Bool.and_eq_true,Option.isNone_iff_eq_none,Bool.or_eq_true,Bool.not_eq_true'] at this
  obtain⟨⟨⟨h1,h2⟩,h3⟩,h4⟩:=this
  refine⟨h1,h2,h3,fun e he=>?_⟩
  rw[he] at h4
  simpa using h4
 have edge:∀{x:Oper} {k:Nat} {done:List Nat},gz x k=true->(∀e∈x.after.toList,Region.binds .any e=true->e.on<all.length/\e.on∈done)->k∈done:=fun{x k done} he h=>by
  unfold gz at he
  obtain⟨e,hm,hb⟩:=List.any_eq_true.1 he
  rw[Bool.and_eq_true] at hb
  have:=(h e hm hb.1).2
  rwa [Nat.eq_of_beq_eq_true hb.2] at this
 intro n
 induction n with
 |zero=>
  intro done fr M hq hu
  have hne:cI all done≠[]:=List.ne_nil_of_mem hq
  rw[eZ hne]
  refine⟨fun h=>h q hq,fun h j hj=>?_⟩
  by_cases e:j=q
  ·subst e;exact h
  ·exfalso
   have hj2:j∈cI all (q::done):=by
    rw[cM] at hj⊢
    obtain⟨h1,x,hx,h2⟩:=hj
    exact⟨fun h=>by rcases List.mem_cons.1 h with h|h;exact e h;exact h1 h,x,hx,fun e he hb=>⟨(h2 e he hb).1,List.mem_cons_of_mem _ (h2 e he hb).2⟩⟩
   rw[cr ho,xl hdm hg hd hqt hu] at h
   have h:=h.2
   rw[be] at h
   cases hr:cI all (q::done) with
   |nil=>rw[hr] at hj2;cases hj2
   |cons a l=>rw[hr] at h;exact h
 |succ m ih=>
  intro done fr M hq hu
  have hne:cI all done≠[]:=List.ne_nil_of_mem hq
  rw[eZ hne]
  refine⟨fun h=>h q hq,fun h j hj=>?_⟩
  by_cases e:j=q
  ·subst e;exact h
  ·have hG:=h
   rw[cr ho,xl hdm hg hd hqt hu] at hG
   obtain⟨hP,hG⟩:=hG
   have hj':=cM.1 hj
   have hq':=cM.1 hq
   obtain⟨h1,x,hx,h2⟩:=hj'
   obtain⟨g1,o',ho',g2⟩:=hq'
   rw[ho] at ho';cases ho'
   obtain⟨p1,p2,p3,p4⟩:=hpair j x hx e
   have hj2:j∈cI all (q::done):=cM.2 ⟨fun h=>by rcases List.mem_cons.1 h with h|h;exact e h;exact h1 h,x,hx,fun e he hb=>⟨(h2 e he hb).1,List.mem_cons_of_mem _ (h2 e he hb).2⟩⟩
   have hq2:q∈cI all (j::done):=cM.2 ⟨fun h=>by rcases List.mem_cons.1 h with h|h;exact e h.symm;exact g1 h,o,ho,fun e he hb=>⟨(g2 e he hb).1,List.mem_cons_of_mem _ (g2 e he hb).2⟩⟩
   have hux:fu d (aF x.op)=false:=p3.resolve_right fun he=>g1 (edge he h2)
   have h3:=(eZ (List.ne_nil_of_mem hj2)).1 hG j hj2
   rw[cr hx,qL p1 p2 hux] at h3
   rw[cr hx]
   refine Eq.mp (mO p1 fun w M'=>?_) h3
   rw[lE m (j::q::done) (q::j::done) fun i=>by simp only[List.mem_cons];exact⟨fun h=>by rcases h with h|h|h<;>simp[h],fun h=>by rcases h with h|h|h<;>simp[h]⟩]
   have hus:(aF o.op).map (cC (b8 fr x.dst w))=(aF o.op).map (cC fr):=by
    cases hxd:x.dst with
    |none=>rfl
    |some e2=>
     have:fu e2 (aF o.op)=false:=(p4 e2 hxd).resolve_right fun he=>h1 (edge he g2)
     exact kE this
   have h4:=ih (j::done) (b8 fr x.dst w) M' hq2 (by rw[hus];exact hu)
   rw[cr ho,xl hdm hg hd hqt (by rw[hus];exact hu),hus] at h4
   exact propext ⟨fun hh=>h4.2 ⟨hP,hh⟩,fun hh=>(h4.1 hh).2⟩
theorem zt (hdm:dm=none\/dm=some .own) {qs:List Nat} (hqs:qs.all (HV all)=true):∀(n:Nat) (done:List Nat),rz P tt dm all qs K n done=be P tt dm all K n done
 |0,done=>by
  funext fr M
  rw[rz,be]
  cases cI all done<;>rfl
 |n+1,done=>by
  funext fr M
  have e:∀j,rz P tt dm all qs K n (j::done)=be P tt dm all K n (j::done):=fun j=>zt hdm hqs n _
  rw[rz]
  simp only[e]
  cases hr:cI all done with
  |nil=>rw[be,hr]
  |cons i l=>
   have hk:be P tt dm all K (n+1) done fr M=oq (i::l) fun j=>Al P tt dm all j fr M (be P tt dm all K n (j::done)):=by rw[be,hr]
   simp only
   cases hf:xj qs (i::l) with
   |none=>exact hk.symm
   |some q=>
    simp only
    obtain⟨h1,h2⟩:=pF hf
    have hok:=List.all_eq_true.1 hqs q h1
    rw[<-hk]
    unfold Qy
    cases ho:all[q]? with
    |none=>rfl
    |some o=>
     simp only[fA]
     cases hu:PM o.op ((aF o.op).map (cC fr)) with
     |false=>rfl
     |true=>
      simp only
      have hok':=hok
      unfold HV at hok'
      rw[ho] at hok'
      cases hd:o.dst with
      |none=>simp only[hd] at hok';cases hok'
      |some d=>exact propext (Lm hdm hok ho hd n done fr M (by rw[hr];exact h2) hu).symm
end
theorem xm {P:Program} {tt:TT} {ops:List Oper} {fr:List AV} {M:ac} {K:List AV->ac->Prop} (qs:List Nat) (hqs:qs.all (HV ops)=true) (h:rz P tt (some .own) ops qs K ops.length [] fr M):gx P tt ops fr M K:=
 o9 (by rw[zt (.inr rfl) hqs] at h;exact h)
end
section
section
variable {P:Program} {tt:TT} {all:List Oper} {K K':List AV->ac->Prop} {fr:List AV} {M:ac}
end
end
end Go.Proofs.YtekmminpfhacpaaGreatDoor
