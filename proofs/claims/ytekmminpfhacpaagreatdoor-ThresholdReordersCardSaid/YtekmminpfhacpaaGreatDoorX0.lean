import Derived.Test.YtekmminpfhacpaaGreatDoorY1
set_option linter.unusedVariables false
set_option linter.unusedSimpArgs false
namespace Go.Proofs.YtekmminpfhacpaaGreatDoor
def NE:Op->Bool
 |.move _| .fieldAddr _ _ _| .nilCheck _| .indexAddr _ _ _| .build _ _| .field _ _ _| .load _ _| .binOp _ _ _ _ _| .unOp _ _ _| .extract _ _| .assign _=>true
 |_=>false
def Mh (op:Op) (us:List AV):Bool:=match op with
 |.load _ _=>match us with
  |[.pd _]=>true
  |_=>false
 |_=>true
def JR:Rs->Prop
 |.no=>False
 |.val _=>True
 |.need c _=>c
 |.arith c _ _=>c
 |.cmp _ _=>True
def Lm:Rs->AV
 |.no=>.top
 |.val u=>u
 |.need _ u=>u
 |.arith _ k n=>.int k (k.wrap n)
 |.cmp p i=>.bool (@decide p i)
theorem Ln {r:Rs} {K:AV->Prop}:gc r K↔JR r/\K (Lm r):=by
 cases r with
 |no=>simp[gc,JR]
 |val u=>simp only[gc,JR,Lm,bO,true_and]
 |need c u=>simp only[gc,JR,Lm,bO,bz]
 |arith c k n=>simp only[gc,JR,Lm,dJ]
 |cmp p i=>simp only[gc,JR,Lm,im,true_and]
def CC (all:List Oper) (q:Nat):Bool:=match all[q]? with
 |none=>false
 |some o=>match o.dst with
  |none=>false
  |some d=>NE o.op&&o.guard.isNone&&(List.range all.length).all fun j=>Nat.beq j q||match all[j]? with
   |none=>true
   |some x=>x.guard.isNone&&xm d x.dst&&(!(eO d (aN x.op))||fZ x q)&&(match x.dst with|none=>true|some e=>!(eO e (aN o.op))||fZ o j)
def MW (all:List Oper) (q:Nat) (fr:List AV) (k1 k2:Prop):Prop:=match all[q]? with
 |none=>k2
 |some o=>yo fr (aN o.op) fun us=>match Mh o.op us with
  |true=>k1
  |false=>k2
def nN (P:Program) (tt:TT) (d:Option aO) (all:List Oper) (qs:List Nat) (K:List AV->aj->Prop):Nat->List Nat->List AV->aj->Prop
 |0,done,fr,M=>match cw all done with
  |[]=>K fr M
  |_::_=>False
 |n+1,done,fr,M=>match cw all done with
  |[]=>K fr M
  |i::l=>match uW qs (i::l) with
   |none=>mH (i::l) fun j=>xY P tt d all j fr M (nN P tt d all qs K n (j::done))
   |some q=>MW all q fr (xY P tt d all q fr M (nN P tt d all qs K n (q::done))) (mH (i::l) fun j=>xY P tt d all j fr M (nN P tt d all qs K n (j::done)))
section
variable {P:Program} {tt:TT} {dm:Option aO} {all:List Oper} {K K':List AV->aj->Prop} {fr:List AV} {M:aj}
theorem Lo {o:Oper} {us:List AV} {K':AV->aj->Prop} (hdm:dm=none\/dm=some .own) (hq:NE o.op=true) (hr:Mh o.op us=true):bh P tt dm o us M K'↔JR (FP tt o.op us)/\K' (Lm (FP tt o.op us)) M:=by
 have hs:bh P tt dm o us M K'=gc (FP tt o.op us) fun u=>K' u M:=by
  unfold bh
  unfold NE at hq
  split at hq
  all_goals first
   |(rename_i e;rw[e];rcases hdm with rfl|rfl<;>rfl)
   |exact absurd hq (by decide)
   |(rename_i e;rw[e] at hr⊢
     unfold Mh at hr
     split at hr
     ·rename_i e2
      cases e2
      split at hr
      ·rcases hdm with rfl|rfl<;>rfl
      ·cases hr
     ·rename_i hh
      exact absurd rfl (hh _ _))
 rw[hs]
 exact Ln
theorem uY {o:Oper} {d:Nat} (hdm:dm=none\/dm=some .own) (hg:o.guard=none) (hd:o.dst=some d) (hq:NE o.op=true) (hr:Mh o.op ((aN o.op).map (de fr))=true):bJ P tt dm all o fr M K↔JR (FP tt o.op ((aN o.op).map (de fr)))/\K (fr.set d (Lm (FP tt o.op ((aN o.op).map (de fr))))) M:=by
 unfold bJ jY
 rw[hg]
 simp only[eU,eQ,hd,cu]
 exact Lo hdm hq hr
theorem IG (hdm:dm=none\/dm=some .own) {q:Nat} {o:Oper} {d:Nat} (hok:CC all q=true) (ho:all[q]? =some o) (hd:o.dst=some d):∀(n:Nat) (done:List Nat) (fr:List AV) (M:aj),q∈cw all done->Mh o.op ((aN o.op).map (de fr))=true->
  (aZ P tt dm all K (n+1) done fr M↔xY P tt dm all q fr M (aZ P tt dm all K n (q::done))):=by
 unfold CC at hok
 rw[ho] at hok
 simp only[hd,Bool.and_eq_true,Option.isNone_iff_eq_none] at hok
 obtain⟨⟨hqt,hg⟩,hall⟩:=hok
 have hpair:∀j x,all[j]? =some x->j≠q->x.guard=none/\xm d x.dst=true/\(eO d (aN x.op)=false\/fZ x q=true)/\∀e,x.dst=some e->eO e (aN o.op)=false\/fZ o j=true:=fun j x hx hne=>by
  have hj:j<all.length:=by
   rcases Nat.lt_or_ge j all.length with h|h
   ·exact h
   ·rw[List.getElem?_eq_none h] at hx;cases hx
  have:=List.all_eq_true.1 hall j (List.mem_range.2 hj)
  rw[hx] at this
  have hb:Nat.beq j q=false:=by cases h:Nat.beq j q with|false=>rfl|true=>exact absurd (Nat.eq_of_beq_eq_true h) hne
  simp only[hb,Bool.false_or,Bool.and_eq_true,Option.isNone_iff_eq_none,Bool.or_eq_true,Bool.not_eq_true'] at this
  obtain⟨⟨⟨h1,h2⟩,h3⟩,h4⟩:=this
  refine⟨h1,h2,h3,fun e he=>?_⟩
  rw[he] at h4
  simpa using h4
 have edge:∀{x:Oper} {k:Nat} {done:List Nat},fZ x k=true->(∀e∈x.after.toList,Region.binds .any e=true->e.on<all.length/\e.on∈done)->k∈done:=fun{x k done} he h=>by
  unfold fZ at he
  obtain⟨e,hm,hb⟩:=List.any_eq_true.1 he
  rw[Bool.and_eq_true] at hb
  have:=(h e hm hb.1).2
  rwa [Nat.eq_of_beq_eq_true hb.2] at this
 intro n
 induction n with
 |zero=>
  intro done fr M hq hu
  have hne:cw all done≠[]:=List.ne_nil_of_mem hq
  rw[d5 hne]
  refine⟨fun h=>h q hq,fun h j hj=>?_⟩
  by_cases e:j=q
  ·subst e;exact h
  ·exfalso
   have hj2:j∈cw all (q::done):=by
    rw[cA] at hj⊢
    obtain⟨h1,x,hx,h2⟩:=hj
    exact⟨fun h=>by rcases List.mem_cons.1 h with h|h;exact e h;exact h1 h,x,hx,fun e he hb=>⟨(h2 e he hb).1,List.mem_cons_of_mem _ (h2 e he hb).2⟩⟩
   rw[cd ho,uY hdm hg hd hqt hu] at h
   have h:=h.2
   rw[aZ] at h
   cases hr:cw all (q::done) with
   |nil=>rw[hr] at hj2;cases hj2
   |cons a l=>rw[hr] at h;exact h
 |succ m ih=>
  intro done fr M hq hu
  have hne:cw all done≠[]:=List.ne_nil_of_mem hq
  rw[d5 hne]
  refine⟨fun h=>h q hq,fun h j hj=>?_⟩
  by_cases e:j=q
  ·subst e;exact h
  ·have hG:=h
   rw[cd ho,uY hdm hg hd hqt hu] at hG
   obtain⟨hP,hG⟩:=hG
   have hj':=cA.1 hj
   have hq':=cA.1 hq
   obtain⟨h1,x,hx,h2⟩:=hj'
   obtain⟨g1,o',ho',g2⟩:=hq'
   rw[ho] at ho';cases ho'
   obtain⟨p1,p2,p3,p4⟩:=hpair j x hx e
   have hj2:j∈cw all (q::done):=cA.2 ⟨fun h=>by rcases List.mem_cons.1 h with h|h;exact e h;exact h1 h,x,hx,fun e he hb=>⟨(h2 e he hb).1,List.mem_cons_of_mem _ (h2 e he hb).2⟩⟩
   have hq2:q∈cw all (j::done):=cA.2 ⟨fun h=>by rcases List.mem_cons.1 h with h|h;exact e h.symm;exact g1 h,o,ho,fun e he hb=>⟨(g2 e he hb).1,List.mem_cons_of_mem _ (g2 e he hb).2⟩⟩
   have hux:eO d (aN x.op)=false:=p3.resolve_right fun he=>g1 (edge he h2)
   have h3:=(d5 (List.ne_nil_of_mem hj2)).1 hG j hj2
   rw[cd hx,pe p1 p2 hux] at h3
   rw[cd hx]
   refine Eq.mp (ly p1 fun w M'=>?_) h3
   rw[ku m (j::q::done) (q::j::done) fun i=>by simp only[List.mem_cons];exact⟨fun h=>by rcases h with h|h|h<;>simp[h],fun h=>by rcases h with h|h|h<;>simp[h]⟩]
   have hus:(aN o.op).map (de (cu fr x.dst w))=(aN o.op).map (de fr):=by
    cases hxd:x.dst with
    |none=>rfl
    |some e2=>
     have:eO e2 (aN o.op)=false:=(p4 e2 hxd).resolve_right fun he=>h1 (edge he g2)
     exact jF this
   have h4:=ih (j::done) (cu fr x.dst w) M' hq2 (by rw[hus];exact hu)
   rw[cd ho,uY hdm hg hd hqt (by rw[hus];exact hu),hus] at h4
   exact propext ⟨fun hh=>h4.2 ⟨hP,hh⟩,fun hh=>(h4.1 hh).2⟩
theorem rH (hdm:dm=none\/dm=some .own) {qs:List Nat} (hqs:qs.all (CC all)=true):∀(n:Nat) (done:List Nat),nN P tt dm all qs K n done=aZ P tt dm all K n done
 |0,done=>by
  funext fr M
  rw[nN,aZ]
  cases cw all done<;>rfl
 |n+1,done=>by
  funext fr M
  have e:∀j,nN P tt dm all qs K n (j::done)=aZ P tt dm all K n (j::done):=fun j=>rH hdm hqs n _
  rw[nN]
  simp only[e]
  cases hr:cw all done with
  |nil=>rw[aZ,hr]
  |cons i l=>
   have hk:aZ P tt dm all K (n+1) done fr M=mH (i::l) fun j=>xY P tt dm all j fr M (aZ P tt dm all K n (j::done)):=by rw[aZ,hr]
   simp only
   cases hf:uW qs (i::l) with
   |none=>exact hk.symm
   |some q=>
    simp only
    obtain⟨h1,h2⟩:=nK hf
    have hok:=List.all_eq_true.1 hqs q h1
    rw[<-hk]
    unfold MW
    cases ho:all[q]? with
    |none=>rfl
    |some o=>
     simp only[eU]
     cases hu:Mh o.op ((aN o.op).map (de fr)) with
     |false=>rfl
     |true=>
      simp only
      have hok':=hok
      unfold CC at hok'
      rw[ho] at hok'
      cases hd:o.dst with
      |none=>simp only[hd] at hok';cases hok'
      |some d=>exact propext (IG hdm hok ho hd n done fr M (by rw[hr];exact h2) hu).symm
end
theorem rI {P:Program} {tt:TT} {ops:List Oper} {fr:List AV} {M:aj} {K:List AV->aj->Prop} (qs:List Nat) (hqs:qs.all (CC ops)=true) (h:nN P tt (some .own) ops qs K ops.length [] fr M):fG P tt ops fr M K:=
 ni (by rw[rH (.inr rfl) hqs] at h;exact h)
end Go.Proofs.YtekmminpfhacpaaGreatDoor
namespace Go.Proofs.YtekmminpfhacpaaGreatDoor
section
variable {P:Program} {tt:TT} {all:List Oper} {K K':List AV->aj->Prop} {fr:List AV} {M:aj}
end
end Go.Proofs.YtekmminpfhacpaaGreatDoor
