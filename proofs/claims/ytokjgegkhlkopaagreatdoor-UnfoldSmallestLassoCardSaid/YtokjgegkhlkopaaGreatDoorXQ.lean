import Derived.Test.YtokjgegkhlkopaaGreatDoorG4
set_option linter.unusedVariables false
set_option linter.unusedSimpArgs false
namespace Go.Proofs.YtokjgegkhlkopaaGreatDoor
section
def NM:Op->Bool
 |.move _| .fieldAddr _ _ _| .nilCheck _| .indexAddr _ _ _| .build _ _| .field _ _ _=>true
 |_=>false
def iU (d:Nat) (xs:List Operand):Bool:=xs.any fun x=>match x with
 |.tmp t=>Nat.beq t d
 |_=>false
def kQ (x:Oper) (q:Nat):Bool:=x.after.toList.any fun e=>Region.binds .any e&&Nat.beq e.on q
def CW (d:Nat):Option Tmp->Bool
 |some e=>!(Nat.beq e d)
 |none=>true
def FG (all:List Oper) (q:Nat):Bool:=match all[q]? with
 |none=>false
 |some o=>match o.dst with
  |none=>false
  |some d=>NM o.op&&o.guard.isNone&&(List.range all.length).all fun j=>Nat.beq j q||match all[j]? with
   |none=>true
   |some x=>x.guard.isNone&&CW d x.dst&&(!(iU d (bh x.op))||kQ x q)&&(match x.dst with|none=>true|some e=>!(iU e (bh o.op))||kQ o j)
def zV:List Nat->List Nat->Option Nat
 |[],_=>none
 |q::qs,l=>match l.any (Nat.beq q) with
  |true=>some q
  |false=>zV qs l
def ML (tt:TT) (all:List Oper) (q:Nat) (fr:List AV) (k1:List AV->Prop) (k2:Prop):Prop:=match all[q]? with
 |none=>k2
 |some o=>y6 fr (bh o.op) fun us=>match po tt o.op us with
  |.val u=>mJ u fun u=>wL fr o.dst u k1
  |_=>k2
def pH (P:Program) (tt:TT) (d:Option ba) (all:List Oper) (qs:List Nat) (K:List AV->ai->Prop):Nat->List Nat->List AV->ai->Prop
 |0,done,fr,M=>match dL all done with
  |[]=>K fr M
  |_::_=>False
 |n+1,done,fr,M=>match dL all done with
  |[]=>K fr M
  |i::l=>match zV qs (i::l) with
   |none=>pN (i::l) fun j=>Aw P tt d all j fr M (pH P tt d all qs K n (j::done))
   |some q=>ML tt all q fr (fun fr'=>pH P tt d all qs K n (q::done) fr' M) (pN (i::l) fun j=>Aw P tt d all j fr M (pH P tt d all qs K n (j::done)))
section
variable {P:Program} {tt:TT} {dm:Option ba} {all:List Oper} {K K':List AV->ai->Prop} {fr:List AV} {M:ai}
theorem si:∀{qs l:List Nat} {q:Nat},zV qs l=some q->q∈qs/\q∈l
 |[],_,_,h=>by cases h
 |a::qs,l,q,h=>by
  rw[zV] at h
  split at h
  ·rename_i ha
   cases h
   exact⟨List.mem_cons_self,fO.1 ha⟩
  ·obtain⟨h1,h2⟩:=si h
   exact⟨List.mem_cons_of_mem _ h1,h2⟩
theorem ml {d:Nat} {u:AV}:∀{xs:List Operand},iU d xs=false->xs.map (dA (fr.set d u))=xs.map (dA fr)
 |[],_=>rfl
 |x::xs,h=>by
  unfold iU at h
  rw[List.any_cons,Bool.or_eq_false_iff] at h
  rw[List.map_cons,List.map_cons,ml (xs:=xs) h.2]
  congr 1
  cases x with
  |tmp t=>
   have hne:t≠d:=fun e=>by subst e;simp at h
   simp only[dA,gD,List.getElem?_set_ne (Ne.symm hne)]
  |const v=>rfl
  |func f=>rfl
  |global g=>rfl
theorem uq {o:Oper} {d:Nat} {u:AV} (hg:o.guard=none) (hd:CW d o.dst=true) (hu:iU d (bh o.op)=false):bU P tt dm all o (fr.set d u) M K=bU P tt dm all o fr M fun fr' M'=>K (fr'.set d u) M':=by
 unfold bU kj
 rw[hg]
 simp only[fL,bN]
 rw[ml hu]
 congr 1
 funext w M'
 congr 1
 cases hdst:o.dst with
 |none=>rfl
 |some e=>
  rw[hdst] at hd
  have hne:e≠d:=fun h=>by subst h;simp[CW] at hd
  simp only[cC]
  exact List.set_comm _ _ (Ne.symm hne)
theorem pJ {o:Oper} (hg:o.guard=none) (h:∀w M',K (cC fr o.dst w) M'=K' (cC fr o.dst w) M'):bU P tt dm all o fr M K=bU P tt dm all o fr M K':=by
 unfold bU kj
 rw[hg]
 simp only[fL,bN,h]
theorem qk {o:Oper} {d:Nat} {u:AV} (hg:o.guard=none) (hd:o.dst=some d) (hq:NM o.op=true) (hu:po tt o.op ((bh o.op).map (dA fr))= .val u):bU P tt dm all o fr M K=K (fr.set d u) M:=by
 have hs:∀us K',bz P tt dm o us M K'=fZ (po tt o.op us) fun u=>K' u M:=fun us K'=>by
  unfold bz
  unfold NM at hq
  split at hq
  all_goals first
   |(rename_i e;rw[e];cases dm with
     |none=>rfl
     |some r=>cases r<;>rfl)
   |exact absurd hq (by decide)
 unfold bU kj
 rw[hg]
 simp only[fL,bN,hs,hu,hd,cC,fZ,aP]
theorem yd {f:Nat->Prop}:∀{l:List Nat},pN l f↔∀i∈l,f i
 |[]=>by simp[pN]
 |i::l=>by rw[pN,yd];simp
theorem fh {done:List Nat} {i:Nat}:i∈dL all done↔i∉done/\∃o,all[i]? =some o/\∀e∈o.after.toList,Region.binds .any e=true->e.on<all.length/\e.on∈done:=by
 unfold dL
 rw[List.mem_filter,List.mem_range]
 constructor
 ·rintro⟨h1,h2⟩
  rw[Bool.and_eq_true] at h2
  refine⟨fun h=>?_,?_⟩
  ·have:=h2.1;rw[fO.2 h] at this;cases this
  ·have h3:=h2.2
   cases ho:all[i]? with
   |none=>rw[ho] at h3;cases h3
   |some o=>
    rw[ho] at h3
    refine⟨o,rfl,fun e he hb=>?_⟩
    have:=List.all_eq_true.1 h3 e he
    rw[hb] at this
    simpa[fO] using this
 ·rintro⟨h1,o,ho,h2⟩
  have hlt:i<all.length:=by
   rcases Nat.lt_or_ge i all.length with h|h
   ·exact h
   ·rw[List.getElem?_eq_none h] at ho;cases ho
  refine⟨hlt,?_⟩
  rw[ho,Bool.and_eq_true]
  refine⟨?_,List.all_eq_true.2 fun e he=>?_⟩
  ·cases hh:done.any (Nat.beq i) with
   |true=>exact absurd (fO.1 hh) h1
   |false=>rfl
  ·cases hb:Region.binds .any e with
   |false=>rfl
   |true=>
    obtain⟨h3,h4⟩:=h2 e he hb
    have:done.any (Nat.beq e.on)=true:=fO.2 h4
    simp[h3,this]
theorem sj {d1 d2:List Nat} (h:∀i,i∈d1↔i∈d2):dL all d1=dL all d2:=by
 have e:∀i,d1.any (Nat.beq i)=d2.any (Nat.beq i):=fun i=>by
  rw[Bool.eq_iff_iff,fO,fO,h]
 unfold dL
 simp only[e]
theorem m4:∀(n:Nat) (d1 d2:List Nat) (_:∀i,i∈d1↔i∈d2),bH P tt dm all K n d1=bH P tt dm all K n d2
 |0,d1,d2,h=>by
  funext fr M
  rw[bH,bH,sj h]
 |n+1,d1,d2,h=>by
  funext fr M
  rw[bH,bH,sj h]
  cases dL all d2 with
  |nil=>rfl
  |cons i l=>
   have e:∀j,bH P tt dm all K n (j::d1)=bH P tt dm all K n (j::d2):=fun j=>m4 n _ _ fun i=>by rw[List.mem_cons,List.mem_cons,h]
   simp only[e]
theorem iw {n:Nat} {done:List Nat} (h:dL all done≠[]):bH P tt dm all K (n+1) done fr M↔∀j∈dL all done,Aw P tt dm all j fr M (bH P tt dm all K n (j::done)):=by
 rw[bH]
 cases hr:dL all done with
 |nil=>exact absurd hr h
 |cons i l=>exact yd
theorem eJ {j:Nat} {o:Oper} (h:all[j]? =some o):Aw P tt dm all j fr M K=bU P tt dm all o fr M K:=by
 unfold Aw;rw[h]
theorem H6 {q:Nat} {o:Oper} {d:Nat} (hok:FG all q=true) (ho:all[q]? =some o) (hd:o.dst=some d):∀(n:Nat) (done:List Nat) (fr:List AV) (M:ai) (u:AV),q∈dL all done->po tt o.op ((bh o.op).map (dA fr))= .val u->
  (bH P tt dm all K (n+1) done fr M↔bH P tt dm all K n (q::done) (fr.set d u) M):=by
 unfold FG at hok
 rw[ho] at hok
 simp only[hd,Bool.and_eq_true,Option.isNone_iff_eq_none] at hok
 obtain⟨⟨hqt,hg⟩,hall⟩:=hok
 have hpair:∀j x,all[j]? =some x->j≠q->x.guard=none/\CW d x.dst=true/\(iU d (bh x.op)=false\/kQ x q=true)/\∀e,x.dst=some e->iU e (bh o.op)=false\/kQ o j=true:=fun j x hx hne=>by
  have hj:j<all.length:=by
   rcases Nat.lt_or_ge j all.length with h|h
   ·exact h
   ·rw[List.getElem?_eq_none h] at hx;cases hx
  have:=List.all_eq_true.1 hall j (List.mem_range.2 hj)
  rw[hx] at this
  have hb:Nat.beq j q=false:=by cases h:Nat.beq j q with|false=>rfl|true=>exact absurd (Nat.eq_of_beq_eq_true h) hne
  simp only[hb,Bool.false_or,Bool.and_eq_true,Option.isNone_iff_eq_none,Bool.or_eq_true,Bool.not_eq_true'] at this
  obtain⟨⟨⟨h1,h2⟩,h3⟩,h4⟩:=this
  refine⟨h1,h2,h3,fun e he=>?_⟩
  rw[he] at h4
  simpa using h4
 have edge:∀{x:Oper} {k:Nat} {done:List Nat},kQ x k=true->(∀e∈x.after.toList,Region.binds .any e=true->e.on<all.length/\e.on∈done)->k∈done:=fun{x k done} he h=>by
  unfold kQ at he
  obtain⟨e,hm,hb⟩:=List.any_eq_true.1 he
  rw[Bool.and_eq_true] at hb
  have:=(h e hm hb.1).2
  rwa [Nat.eq_of_beq_eq_true hb.2] at this
 intro n
 induction n with
 |zero=>
  intro done fr M u hq hu
  have hne:dL all done≠[]:=List.ne_nil_of_mem hq
  rw[iw hne]
  constructor
  ·intro h
   have:=h q hq
   rw[eJ ho,qk hg hd hqt hu] at this
   exact this
  ·intro h j hj
   by_cases e:j=q
   ·subst e
    rw[eJ ho,qk hg hd hqt hu]
    exact h
   ·exfalso
    have hj2:j∈dL all (q::done):=by
     rw[fh] at hj⊢
     obtain⟨h1,x,hx,h2⟩:=hj
     exact⟨fun h=>by rcases List.mem_cons.1 h with h|h;exact e h;exact h1 h,x,hx,fun e he hb=>⟨(h2 e he hb).1,List.mem_cons_of_mem _ (h2 e he hb).2⟩⟩
    rw[bH] at h
    cases hr:dL all (q::done) with
    |nil=>rw[hr] at hj2;cases hj2
    |cons a l=>rw[hr] at h;exact h
 |succ m ih=>
  intro done fr M u hq hu
  have hne:dL all done≠[]:=List.ne_nil_of_mem hq
  rw[iw hne]
  constructor
  ·intro h
   have:=h q hq
   rw[eJ ho,qk hg hd hqt hu] at this
   exact this
  ·intro h j hj
   by_cases e:j=q
   ·subst e
    rw[eJ ho,qk hg hd hqt hu]
    exact h
   ·have hj':=fh.1 hj
    have hq':=fh.1 hq
    obtain⟨h1,x,hx,h2⟩:=hj'
    obtain⟨g1,o',ho',g2⟩:=hq'
    rw[ho] at ho';cases ho'
    obtain⟨p1,p2,p3,p4⟩:=hpair j x hx e
    have hj2:j∈dL all (q::done):=fh.2 ⟨fun h=>by rcases List.mem_cons.1 h with h|h;exact e h;exact h1 h,x,hx,fun e he hb=>⟨(h2 e he hb).1,List.mem_cons_of_mem _ (h2 e he hb).2⟩⟩
    have hq2:q∈dL all (j::done):=fh.2 ⟨fun h=>by rcases List.mem_cons.1 h with h|h;exact e h.symm;exact g1 h,o,ho,fun e he hb=>⟨(g2 e he hb).1,List.mem_cons_of_mem _ (g2 e he hb).2⟩⟩
    have hux:iU d (bh x.op)=false:=p3.resolve_right fun he=>g1 (edge he h2)
    have h3:=(iw (List.ne_nil_of_mem hj2)).1 h j hj2
    rw[eJ hx,uq p1 p2 hux] at h3
    rw[eJ hx]
    refine Eq.mp (pJ p1 fun w M'=>?_) h3
    rw[m4 m (j::q::done) (q::j::done) fun i=>by simp only[List.mem_cons];exact⟨fun h=>by rcases h with h|h|h<;>simp[h],fun h=>by rcases h with h|h|h<;>simp[h]⟩]
    refine propext (ih (j::done) (cC fr x.dst w) M' u hq2 ?_).symm
    rw[<-hu]
    congr 1
    cases hxd:x.dst with
    |none=>rfl
    |some e2=>
     have:iU e2 (bh o.op)=false:=(p4 e2 hxd).resolve_right fun he=>h1 (edge he g2)
     exact ml this
theorem ye {qs:List Nat} (hqs:qs.all (FG all)=true):∀(n:Nat) (done:List Nat),pH P tt dm all qs K n done=bH P tt dm all K n done
 |0,done=>by
  funext fr M
  rw[pH,bH]
  cases dL all done<;>rfl
 |n+1,done=>by
  funext fr M
  have e:∀j,pH P tt dm all qs K n (j::done)=bH P tt dm all K n (j::done):=fun j=>ye hqs n _
  rw[pH]
  simp only[e]
  cases hr:dL all done with
  |nil=>rw[bH,hr]
  |cons i l=>
   have hk:bH P tt dm all K (n+1) done fr M=pN (i::l) fun j=>Aw P tt dm all j fr M (bH P tt dm all K n (j::done)):=by rw[bH,hr]
   simp only
   cases hf:zV qs (i::l) with
   |none=>exact hk.symm
   |some q=>
    simp only
    obtain⟨h1,h2⟩:=si hf
    have hok:=List.all_eq_true.1 hqs q h1
    rw[<-hk]
    unfold ML
    cases ho:all[q]? with
    |none=>rfl
    |some o=>
     simp only[fL]
     cases hu:po tt o.op ((bh o.op).map (dA fr)) with
     |val u=>
      simp only[aP,bN]
      have hok':=hok
      unfold FG at hok'
      rw[ho] at hok'
      cases hd:o.dst with
      |none=>simp only[hd] at hok';cases hok'
      |some d=>exact propext (H6 hok ho hd n done fr M u (by rw[hr];exact h2) hu).symm
     |_=>rfl
end
end
section
def MM (tt:TT) (op:Op) (us:List AV):Rs:=match op with
 |.load t _=>match us with
  |[.pd cells]=>ga tt t cells
  |_=>.no
 |op=>po tt op us
section
variable {P:Program} {tt:TT} {dm:Option ba} {all:List Oper} {K K':List AV->ai->Prop} {fr:List AV} {M:ai}
end
end
section
def Nh:Op->Bool
 |.move _| .fieldAddr _ _ _| .nilCheck _| .indexAddr _ _ _| .build _ _| .field _ _ _| .load _ _| .binOp _ _ _ _ _| .unOp _ _ _| .extract _ _| .assign _=>true
 |_=>false
def LC (op:Op) (us:List AV):Bool:=match op with
 |.load _ _=>match us with
  |[.pd _]=>true
  |_=>false
 |_=>true
def Jj:Rs->Prop
 |.no=>False
 |.val _=>True
 |.need c _=>c
 |.arith c _ _=>c
 |.cmp _ _=>True
def KR:Rs->AV
 |.no=>.top
 |.val u=>u
 |.need _ u=>u
 |.arith _ k n=>.int k (k.wrap n)
 |.cmp p i=>.bool (@decide p i)
theorem KT {r:Rs} {K:AV->Prop}:fZ r K↔Jj r/\K (KR r):=by
 cases r with
 |no=>simp[fZ,Jj]
 |val u=>simp only[fZ,Jj,KR,aP,true_and]
 |need c u=>simp only[fZ,Jj,KR,aP,bF]
 |arith c k n=>simp only[fZ,Jj,KR,dz]
 |cmp p i=>simp only[fZ,Jj,KR,iC,true_and]
def FH (all:List Oper) (q:Nat):Bool:=match all[q]? with
 |none=>false
 |some o=>match o.dst with
  |none=>false
  |some d=>Nh o.op&&o.guard.isNone&&(List.range all.length).all fun j=>Nat.beq j q||match all[j]? with
   |none=>true
   |some x=>x.guard.isNone&&CW d x.dst&&(!(iU d (bh x.op))||kQ x q)&&(match x.dst with|none=>true|some e=>!(iU e (bh o.op))||kQ o j)
def MN (all:List Oper) (q:Nat) (fr:List AV) (k1 k2:Prop):Prop:=match all[q]? with
 |none=>k2
 |some o=>y6 fr (bh o.op) fun us=>match LC o.op us with
  |true=>k1
  |false=>k2
def pK (P:Program) (tt:TT) (d:Option ba) (all:List Oper) (qs:List Nat) (K:List AV->ai->Prop):Nat->List Nat->List AV->ai->Prop
 |0,done,fr,M=>match dL all done with
  |[]=>K fr M
  |_::_=>False
 |n+1,done,fr,M=>match dL all done with
  |[]=>K fr M
  |i::l=>match zV qs (i::l) with
   |none=>pN (i::l) fun j=>Aw P tt d all j fr M (pK P tt d all qs K n (j::done))
   |some q=>MN all q fr (Aw P tt d all q fr M (pK P tt d all qs K n (q::done))) (pN (i::l) fun j=>Aw P tt d all j fr M (pK P tt d all qs K n (j::done)))
section
variable {P:Program} {tt:TT} {dm:Option ba} {all:List Oper} {K K':List AV->ai->Prop} {fr:List AV} {M:ai}
theorem KU {o:Oper} {us:List AV} {K':AV->ai->Prop} (hdm:dm=none\/dm=some .own) (hq:Nh o.op=true) (hr:LC o.op us=true):bz P tt dm o us M K'↔Jj (MM tt o.op us)/\K' (KR (MM tt o.op us)) M:=by
 have hs:bz P tt dm o us M K'=fZ (MM tt o.op us) fun u=>K' u M:=by
  unfold bz
  unfold Nh at hq
  split at hq
  all_goals first
   |(rename_i e;rw[e];rcases hdm with rfl|rfl<;>rfl)
   |exact absurd hq (by decide)
   |(rename_i e;rw[e] at hr⊢
     unfold LC at hr
     split at hr
     ·rename_i e2
      cases e2
      split at hr
      ·rcases hdm with rfl|rfl<;>rfl
      ·cases hr
     ·rename_i hh
      exact absurd rfl (hh _ _))
 rw[hs]
 exact KT
theorem vW {o:Oper} {d:Nat} (hdm:dm=none\/dm=some .own) (hg:o.guard=none) (hd:o.dst=some d) (hq:Nh o.op=true) (hr:LC o.op ((bh o.op).map (dA fr))=true):bU P tt dm all o fr M K↔Jj (MM tt o.op ((bh o.op).map (dA fr)))/\K (fr.set d (KR (MM tt o.op ((bh o.op).map (dA fr))))) M:=by
 unfold bU kj
 rw[hg]
 simp only[fL,bN,hd,cC]
 exact KU hdm hq hr
theorem H7 (hdm:dm=none\/dm=some .own) {q:Nat} {o:Oper} {d:Nat} (hok:FH all q=true) (ho:all[q]? =some o) (hd:o.dst=some d):∀(n:Nat) (done:List Nat) (fr:List AV) (M:ai),q∈dL all done->LC o.op ((bh o.op).map (dA fr))=true->
  (bH P tt dm all K (n+1) done fr M↔Aw P tt dm all q fr M (bH P tt dm all K n (q::done))):=by
 unfold FH at hok
 rw[ho] at hok
 simp only[hd,Bool.and_eq_true,Option.isNone_iff_eq_none] at hok
 obtain⟨⟨hqt,hg⟩,hall⟩:=hok
 have hpair:∀j x,all[j]? =some x->j≠q->x.guard=none/\CW d x.dst=true/\(iU d (bh x.op)=false\/kQ x q=true)/\∀e,x.dst=some e->iU e (bh o.op)=false\/kQ o j=true:=fun j x hx hne=>by
  have hj:j<all.length:=by
   rcases Nat.lt_or_ge j all.length with h|h
   ·exact h
   ·rw[List.getElem?_eq_none h] at hx;cases hx
  have:=List.all_eq_true.1 hall j (List.mem_range.2 hj)
  rw[hx] at this
  have hb:Nat.beq j q=false:=by cases h:Nat.beq j q with|false=>rfl|true=>exact absurd (Nat.eq_of_beq_eq_true h) hne
  simp only[hb,Bool.false_or,Bool.and_eq_true,Option.isNone_iff_eq_none,Bool.or_eq_true,Bool.not_eq_true'] at this
  obtain⟨⟨⟨h1,h2⟩,h3⟩,h4⟩:=this
  refine⟨h1,h2,h3,fun e he=>?_⟩
  rw[he] at h4
  simpa using h4
 have edge:∀{x:Oper} {k:Nat} {done:List Nat},kQ x k=true->(∀e∈x.after.toList,Region.binds .any e=true->e.on<all.length/\e.on∈done)->k∈done:=fun{x k done} he h=>by
  unfold kQ at he
  obtain⟨e,hm,hb⟩:=List.any_eq_true.1 he
  rw[Bool.and_eq_true] at hb
  have:=(h e hm hb.1).2
  rwa [Nat.eq_of_beq_eq_true hb.2] at this
 intro n
 induction n with
 |zero=>
  intro done fr M hq hu
  have hne:dL all done≠[]:=List.ne_nil_of_mem hq
  rw[iw hne]
  refine⟨fun h=>h q hq,fun h j hj=>?_⟩
  by_cases e:j=q
  ·subst e;exact h
  ·exfalso
   have hj2:j∈dL all (q::done):=by
    rw[fh] at hj⊢
    obtain⟨h1,x,hx,h2⟩:=hj
    exact⟨fun h=>by rcases List.mem_cons.1 h with h|h;exact e h;exact h1 h,x,hx,fun e he hb=>⟨(h2 e he hb).1,List.mem_cons_of_mem _ (h2 e he hb).2⟩⟩
   rw[eJ ho,vW hdm hg hd hqt hu] at h
   have h:=h.2
   rw[bH] at h
   cases hr:dL all (q::done) with
   |nil=>rw[hr] at hj2;cases hj2
   |cons a l=>rw[hr] at h;exact h
 |succ m ih=>
  intro done fr M hq hu
  have hne:dL all done≠[]:=List.ne_nil_of_mem hq
  rw[iw hne]
  refine⟨fun h=>h q hq,fun h j hj=>?_⟩
  by_cases e:j=q
  ·subst e;exact h
  ·have hG:=h
   rw[eJ ho,vW hdm hg hd hqt hu] at hG
   obtain⟨hP,hG⟩:=hG
   have hj':=fh.1 hj
   have hq':=fh.1 hq
   obtain⟨h1,x,hx,h2⟩:=hj'
   obtain⟨g1,o',ho',g2⟩:=hq'
   rw[ho] at ho';cases ho'
   obtain⟨p1,p2,p3,p4⟩:=hpair j x hx e
   have hj2:j∈dL all (q::done):=fh.2 ⟨fun h=>by rcases List.mem_cons.1 h with h|h;exact e h;exact h1 h,x,hx,fun e he hb=>⟨(h2 e he hb).1,List.mem_cons_of_mem _ (h2 e he hb).2⟩⟩
   have hq2:q∈dL all (j::done):=fh.2 ⟨fun h=>by rcases List.mem_cons.1 h with h|h;exact e h.symm;exact g1 h,o,ho,fun e he hb=>⟨(g2 e he hb).1,List.mem_cons_of_mem _ (g2 e he hb).2⟩⟩
   have hux:iU d (bh x.op)=false:=p3.resolve_right fun he=>g1 (edge he h2)
   have h3:=(iw (List.ne_nil_of_mem hj2)).1 hG j hj2
   rw[eJ hx,uq p1 p2 hux] at h3
   rw[eJ hx]
   refine Eq.mp (pJ p1 fun w M'=>?_) h3
   rw[m4 m (j::q::done) (q::j::done) fun i=>by simp only[List.mem_cons];exact⟨fun h=>by rcases h with h|h|h<;>simp[h],fun h=>by rcases h with h|h|h<;>simp[h]⟩]
   have hus:(bh o.op).map (dA (cC fr x.dst w))=(bh o.op).map (dA fr):=by
    cases hxd:x.dst with
    |none=>rfl
    |some e2=>
     have:iU e2 (bh o.op)=false:=(p4 e2 hxd).resolve_right fun he=>h1 (edge he g2)
     exact ml this
   have h4:=ih (j::done) (cC fr x.dst w) M' hq2 (by rw[hus];exact hu)
   rw[eJ ho,vW hdm hg hd hqt (by rw[hus];exact hu),hus] at h4
   exact propext ⟨fun hh=>h4.2 ⟨hP,hh⟩,fun hh=>(h4.1 hh).2⟩
theorem yf (hdm:dm=none\/dm=some .own) {qs:List Nat} (hqs:qs.all (FH all)=true):∀(n:Nat) (done:List Nat),pK P tt dm all qs K n done=bH P tt dm all K n done
 |0,done=>by
  funext fr M
  rw[pK,bH]
  cases dL all done<;>rfl
 |n+1,done=>by
  funext fr M
  have e:∀j,pK P tt dm all qs K n (j::done)=bH P tt dm all K n (j::done):=fun j=>yf hdm hqs n _
  rw[pK]
  simp only[e]
  cases hr:dL all done with
  |nil=>rw[bH,hr]
  |cons i l=>
   have hk:bH P tt dm all K (n+1) done fr M=pN (i::l) fun j=>Aw P tt dm all j fr M (bH P tt dm all K n (j::done)):=by rw[bH,hr]
   simp only
   cases hf:zV qs (i::l) with
   |none=>exact hk.symm
   |some q=>
    simp only
    obtain⟨h1,h2⟩:=si hf
    have hok:=List.all_eq_true.1 hqs q h1
    rw[<-hk]
    unfold MN
    cases ho:all[q]? with
    |none=>rfl
    |some o=>
     simp only[fL]
     cases hu:LC o.op ((bh o.op).map (dA fr)) with
     |false=>rfl
     |true=>
      simp only
      have hok':=hok
      unfold FH at hok'
      rw[ho] at hok'
      cases hd:o.dst with
      |none=>simp only[hd] at hok';cases hok'
      |some d=>exact propext (H7 hdm hok ho hd n done fr M (by rw[hr];exact h2) hu).symm
end
theorem sk {P:Program} {tt:TT} {ops:List Oper} {fr:List AV} {M:ai} {K:List AV->ai->Prop} (qs:List Nat) (hqs:qs.all (FH ops)=true) (h:pK P tt (some .own) ops qs K ops.length [] fr M):g7 P tt ops fr M K:=
 LX (by rw[yf (.inr rfl) hqs] at h;exact h)
end
section
def Pf (all:List Oper) (l:Nat):Bool:=
 (List.range all.length).all fun q=>Nat.beq q l||match all[q]? with
  |none=>true
  |some o=>match o.dst with
   |none=>false
   |some d=>Nh o.op&&o.guard.isNone&&tM all.length all q l&&(List.range all.length).all fun j=>Nat.beq j q||Nat.beq j l||match all[j]? with
    |none=>true
    |some x=>CW d x.dst&&(!(iU d (bh x.op))||kQ x q)
def O1 (P:Program) (tt:TT) (all:List Oper) (K:List AV->ai->Prop):Nat->List Nat->List AV->ai->Prop
 |0,done,fr,M=>match dL all done with
  |[]=>K fr M
  |_::_=>False
 |n+1,done,fr,M=>match dL all done with
  |[]=>K fr M
  |i::_=>Aw P tt none all i fr M (O1 P tt all K n (i::done))
def Pa (all:List Oper) (done:List Nat):Prop:=∀j∈done,∀x,all[j]? =some x->∀e∈x.after.toList,Region.binds .any e=true->e.on∈done
section
variable {P:Program} {tt:TT} {all:List Oper} {K K':List AV->ai->Prop} {fr:List AV} {M:ai}
theorem Pd {o:Oper} {us:List AV} {K':AV->ai->Prop} (hq:Nh o.op=true):bz P tt none o us M K'↔Jj (kg none tt o.op us M)/\K' (KR (kg none tt o.op us M)) M:=by
 have hs:bz P tt none o us M K'=fZ (kg none tt o.op us M) fun u=>K' u M:=by
  unfold bz
  unfold Nh at hq
  split at hq
  all_goals first
   |(rename_i e;rw[e])
   |exact absurd hq (by decide)
 rw[hs]
 exact KT
def Pe (tt:TT) (o:Oper) (fr:List AV) (M:ai):Rs:=kg none tt o.op ((bh o.op).map (dA fr)) M
theorem O0 {o:Oper} {d:Nat} (hg:o.guard=none) (hd:o.dst=some d) (hq:Nh o.op=true):bU P tt none all o fr M K↔Jj (Pe tt o fr M)/\K (fr.set d (KR (Pe tt o fr M))) M:=by
 unfold bU kj Pe
 rw[hg]
 simp only[fL,bN,hd,cC]
 exact Pd hq
theorem O' {o:Oper} {d:Nat} {u:AV} (hu:iU d (bh o.op)=false):Pe tt o (fr.set d u) M=Pe tt o fr M:=by
 unfold Pe
 rw[ml hu]
theorem O8 {a b:Nat} (h:a≠b):Nat.beq a b=false:=by
 cases hb:Nat.beq a b with
 |false=>rfl
 |true=>exact absurd (Nat.eq_of_beq_eq_true hb) h
theorem O5 {l:Nat} (hok:Pf all l=true) {q:Nat} {o:Oper} (ho:all[q]? =some o) (hql:q≠l):∃d,o.dst=some d/\Nh o.op=true/\o.guard=none/\tM all.length all q l=true/\
  ∀j x,all[j]? =some x->j≠q->j≠l->CW d x.dst=true/\(iU d (bh x.op)=false\/kQ x q=true):=by
 have lt:∀{j:Nat} {x:Oper},all[j]? =some x->j<all.length:=fun{j x} h=>by
  rcases Nat.lt_or_ge j all.length with h2|h2
  ·exact h2
  ·rw[List.getElem?_eq_none h2] at h;cases h
 have h1:=List.all_eq_true.1 hok q (List.mem_range.2 (lt ho))
 rw[O8 hql,Bool.false_or,ho] at h1
 dsimp only at h1
 cases hd:o.dst with
 |none=>rw[hd] at h1;cases h1
 |some d=>
  rw[hd] at h1
  simp only[Bool.and_eq_true,Option.isNone_iff_eq_none] at h1
  obtain⟨⟨⟨h2,h3⟩,h4⟩,h5⟩:=h1
  refine⟨d,rfl,h2,h3,h4,fun j x hx hjq hjl=>?_⟩
  have h6:=List.all_eq_true.1 h5 j (List.mem_range.2 (lt hx))
  rw[O8 hjq,O8 hjl,hx] at h6
  simp only[Bool.false_or,Bool.and_eq_true,Bool.or_eq_true,Bool.not_eq_true'] at h6
  exact h6
theorem O2 {done:List Nat} (hc:Pa all done) {i:Nat}:∀(n j:Nat),tM n all i j=true->(∀x,all[j]? =some x->∀e∈x.after.toList,Region.binds .any e=true->e.on∈done)->i∈done
 |0,j,h,_=>by cases h
 |n+1,j,h,hj=>by
  rw[tM] at h
  cases hx:all[j]? with
  |none=>rw[hx] at h;cases h
  |some x=>
   rw[hx] at h
   dsimp only at h
   obtain⟨e,hm,hb⟩:=List.any_eq_true.1 h
   rw[Bool.and_eq_true,Bool.or_eq_true] at hb
   have he:=hj x hx e hm hb.1
   rcases hb.2 with h1|h1
   ·rw[<-of_decide_eq_true h1];exact he
   ·exact O2 hc n e.on h1 fun y hy=>hc e.on he y hy
theorem O3 {done:List Nat} (hc:Pa all done) {j:Nat} (hj:j∈dL all done):Pa all (j::done):=by
 intro k hk x hx e he hb
 rcases List.mem_cons.1 hk with rfl|hk
 ·obtain⟨_,o,ho,h⟩:=fh.1 hj
  rw[hx] at ho;cases ho
  exact List.mem_cons_of_mem _ (h e he hb).2
 ·exact List.mem_cons_of_mem _ (hc k hk x hx e he hb)
theorem O6 {done:List Nat} {j q:Nat} (hj:j∈dL all done) (hne:j≠q):j∈dL all (q::done):=by
 obtain⟨h1,x,hx,h2⟩:=fh.1 hj
 exact fh.2 ⟨fun h=>by rcases List.mem_cons.1 h with h|h;exact hne h;exact h1 h,x,hx,fun e he hb=>⟨(h2 e he hb).1,List.mem_cons_of_mem _ (h2 e he hb).2⟩⟩
theorem O4 {l:Nat} (hok:Pf all l=true) {done:List Nat} (hc:Pa all done) (hl:l∈dL all done) {j:Nat} (hj:j∈dL all done):j=l:=by
 refine Classical.byContradiction fun hne=>?_
 obtain⟨h1,x,hx,_⟩:=fh.1 hj
 obtain⟨_,o,ho,h2⟩:=fh.1 hl
 obtain⟨d,_,_,_,hp,_⟩:=O5 hok hx hne
 exact h1 (O2 hc _ _ hp fun y hy e he hb=>by rw[ho] at hy;cases hy;exact(h2 e he hb).2)
theorem Pb {l:Nat} (hok:Pf all l=true) {q:Nat} (hql:q≠l):∀(n:Nat) (done:List Nat) (fr:List AV) (M:ai),Pa all done->q∈dL all done->
  (bH P tt none all K (n+1) done fr M↔Aw P tt none all q fr M (bH P tt none all K n (q::done))):=by
 intro n
 induction n with
 |zero=>
  intro done fr M hc hq
  obtain⟨_,o,ho,_⟩:=fh.1 hq
  obtain⟨d,hd,hqt,hg,hp,hall⟩:=O5 hok ho hql
  rw[iw (List.ne_nil_of_mem hq)]
  refine⟨fun h=>h q hq,fun h j hj=>?_⟩
  by_cases e:j=q
  ·subst e;exact h
  ·exfalso
   have hj2:=O6 hj e
   rw[eJ ho,O0 hg hd hqt] at h
   have h:=h.2
   rw[bH] at h
   cases hr:dL all (q::done) with
   |nil=>rw[hr] at hj2;cases hj2
   |cons a r=>rw[hr] at h;exact h
 |succ m ih=>
  intro done fr M hc hq
  obtain⟨g1,o,ho,g2⟩:=fh.1 hq
  obtain⟨d,hd,hqt,hg,hp,hall⟩:=O5 hok ho hql
  rw[iw (List.ne_nil_of_mem hq)]
  refine⟨fun h=>h q hq,fun h j hj=>?_⟩
  by_cases e:j=q
  ·subst e;exact h
  ·have hjl:j≠l:=fun hl=>by subst hl;exact e (O4 hok hc hj hq).symm
   obtain⟨h1,x,hx,h2⟩:=fh.1 hj
   obtain⟨dx,hdx,hqtx,hgx,_,hallx⟩:=O5 hok hx hjl
   have edge:∀{x:Oper} {k:Nat},kQ x k=true->(∀e∈x.after.toList,Region.binds .any e=true->e.on<all.length/\e.on∈done)->k∈done:=fun{x k} he h=>by
    unfold kQ at he
    obtain⟨e,hm,hb⟩:=List.any_eq_true.1 he
    rw[Bool.and_eq_true] at hb
    have:=(h e hm hb.1).2
    rwa [Nat.eq_of_beq_eq_true hb.2] at this
   obtain⟨p2,p3⟩:=hall j x hx e hjl
   obtain⟨_,p4⟩:=hallx q o ho (fun h=>e h.symm) hql
   have hux:iU d (bh x.op)=false:=p3.resolve_right fun he=>g1 (edge he h2)
   have huo:iU dx (bh o.op)=false:=p4.resolve_right fun he=>h1 (edge he g2)
   have hdd:d≠dx:=by
    rw[hdx] at p2
    intro h3
    subst h3
    simp[CW] at p2
   have hj2:=O6 hj e
   have hq2:=O6 hq (fun h=>e h.symm)
   rw[eJ ho,O0 hg hd hqt] at h
   obtain⟨hP,hG⟩:=h
   have h3:=(iw (List.ne_nil_of_mem hj2)).1 hG j hj2
   rw[eJ hx,O0 hgx hdx hqtx,O' hux] at h3
   rw[eJ hx,O0 hgx hdx hqtx]
   refine⟨h3.1,(ih (j::done) _ _ (O3 hc hj) hq2).2 ?_⟩
   rw[eJ ho,O0 hg hd hqt,O' huo]
   refine⟨hP,?_⟩
   have h4:=h3.2
   rw[m4 m (j::q::done) (q::j::done) fun i=>by simp only[List.mem_cons];exact⟨fun h=>by rcases h with h|h|h<;>simp[h],fun h=>by rcases h with h|h|h<;>simp[h]⟩,List.set_comm _ _ hdd] at h4
   exact h4
theorem O7 {l:Nat} (hok:Pf all l=true):∀(n:Nat) (done:List Nat),Pa all done->∀fr M,O1 P tt all K n done fr M↔bH P tt none all K n done fr M
 |0,done,_,fr,M=>by
  rw[O1,bH]
  cases dL all done<;>exact Iff.rfl
 |n+1,done,hc,fr,M=>by
  cases hr:dL all done with
  |nil=>
   rw[O1,bH,hr]
  |cons i r=>
   have hi:i∈dL all done:=by rw[hr];exact List.mem_cons_self
   have e:O1 P tt all K n (i::done)=bH P tt none all K n (i::done):=by
    funext fr M
    exact propext (O7 hok n _ (O3 hc hi) fr M)
   have h0:O1 P tt all K (n+1) done fr M=Aw P tt none all i fr M (bH P tt none all K n (i::done)):=by
    rw[O1,hr]
    dsimp only
    rw[e]
   rw[h0]
   by_cases hil:i=l
   ·subst hil
    rw[iw (List.ne_nil_of_mem hi)]
    refine⟨fun h j hj=>?_,fun h=>h i hi⟩
    have:=O4 hok hc hi hj
    subst this
    exact h
   ·exact(Pb hok hil n done fr M hc hi).symm
end
structure Pc (K:List AV->ai->Prop) (fr:List AV) (M:ai):Prop where
 out:K fr M
theorem Pg {P:Program} {tt:TT} {ops:List Oper} {fr:List AV} {M:ai} {K:List AV->ai->Prop} (l:Nat) (hok:Pf ops l=true) (h:O1 P tt ops (Pc K) ops.length [] fr M):g7 P tt ops fr M K:=by
 have e:Pc K=K:=by
  funext fr M
  exact propext ⟨fun h=>h.out,fun h=>⟨h⟩⟩
 rw[e] at h
 exact LY ((O7 hok _ _ (fun j hj=>by cases hj) _ _).1 h)
end
end Go.Proofs.YtokjgegkhlkopaaGreatDoor
