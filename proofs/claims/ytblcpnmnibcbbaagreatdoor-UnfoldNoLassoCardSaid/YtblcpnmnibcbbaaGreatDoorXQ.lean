import Derived.Test.YtblcpnmnibcbbaaGreatDoorG4
set_option linter.unusedVariables false
set_option linter.unusedSimpArgs false
namespace Go.Proofs.YtblcpnmnibcbbaaGreatDoor
section
def GU:Op->Bool
 |.move _| .fieldAddr _ _ _| .nilCheck _| .indexAddr _ _ _| .build _ _| .field _ _ _=>true
 |_=>false
def dk (d:Nat) (xs:List Operand):Bool:=xs.any fun x=>match x with
 |.tmp t=>Nat.beq t d
 |_=>false
def eg (x:Oper) (q:Nat):Bool:=x.after.toList.any fun e=>Region.binds .any e&&Nat.beq e.on q
def qt (d:Nat):Option Tmp->Bool
 |some e=>!(Nat.beq e d)
 |none=>true
def CG (all:List Oper) (q:Nat):Bool:=match all[q]? with
 |none=>false
 |some o=>match o.dst with
  |none=>false
  |some d=>GU o.op&&o.guard.isNone&&(List.range all.length).all fun j=>Nat.beq j q||match all[j]? with
   |none=>true
   |some x=>x.guard.isNone&&qt d x.dst&&(!(dk d (aJ x.op))||eg x q)&&(match x.dst with|none=>true|some e=>!(dk e (aJ o.op))||eg o j)
def tv:List Nat->List Nat->Option Nat
 |[],_=>none
 |q::qs,l=>match l.any (Nat.beq q) with
  |true=>some q
  |false=>tv qs l
def H5 (tt:TT) (all:List Oper) (q:Nat) (fr:List AV) (k1:List AV->Prop) (k2:Prop):Prop:=match all[q]? with
 |none=>k2
 |some o=>ud fr (aJ o.op) fun us=>match nQ tt o.op us with
  |.val u=>j9 u fun u=>qI fr o.dst u k1
  |_=>k2
def n9 (P:Program) (tt:TT) (d:Option aP) (all:List Oper) (qs:List Nat) (K:List AV->ah->Prop):Nat->List Nat->List AV->ah->Prop
 |0,done,fr,M=>match bM all done with
  |[]=>K fr M
  |_::_=>False
 |n+1,done,fr,M=>match bM all done with
  |[]=>K fr M
  |i::l=>match tv qs (i::l) with
   |none=>lA (i::l) fun j=>rB P tt d all j fr M (n9 P tt d all qs K n (j::done))
   |some q=>H5 tt all q fr (fun fr'=>n9 P tt d all qs K n (q::done) fr' M) (lA (i::l) fun j=>rB P tt d all j fr M (n9 P tt d all qs K n (j::done)))
section
variable {P:Program} {tt:TT} {dm:Option aP} {all:List Oper} {K K':List AV->ah->Prop} {fr:List AV} {M:ah}
theorem mQ:∀{qs l:List Nat} {q:Nat},tv qs l=some q->q∈qs/\q∈l
 |[],_,_,h=>by cases h
 |a::qs,l,q,h=>by
  rw[tv] at h
  split at h
  ·rename_i ha
   cases h
   exact⟨List.mem_cons_self,fq.1 ha⟩
  ·obtain⟨h1,h2⟩:=mQ h
   exact⟨List.mem_cons_of_mem _ h1,h2⟩
theorem gG {d:Nat} {u:AV}:∀{xs:List Operand},dk d xs=false->xs.map (cm (fr.set d u))=xs.map (cm fr)
 |[],_=>rfl
 |x::xs,h=>by
  unfold dk at h
  rw[List.any_cons,Bool.or_eq_false_iff] at h
  rw[List.map_cons,List.map_cons,gG (xs:=xs) h.2]
  congr 1
  cases x with
  |tmp t=>
   have hne:t≠d:=fun e=>by subst e;simp at h
   simp only[cm,gD,List.getElem?_set_ne (Ne.symm hne)]
  |const v=>rfl
  |func f=>rfl
  |global g=>rfl
theorem nJ {o:Oper} {d:Nat} {u:AV} (hg:o.guard=none) (hd:qt d o.dst=true) (hu:dk d (aJ o.op)=false):bJ P tt dm all o (fr.set d u) M K=bJ P tt dm all o fr M fun fr' M'=>K (fr'.set d u) M':=by
 unfold bJ gP
 rw[hg]
 simp only[dE,bn]
 rw[gG hu]
 congr 1
 funext w M'
 congr 1
 cases hdst:o.dst with
 |none=>rfl
 |some e=>
  rw[hdst] at hd
  have hne:e≠d:=fun h=>by subst h;simp[qt] at hd
  simp only[ca]
  exact List.set_comm _ _ (Ne.symm hne)
theorem kI {o:Oper} (hg:o.guard=none) (h:∀w M',K (ca fr o.dst w) M'=K' (ca fr o.dst w) M'):bJ P tt dm all o fr M K=bJ P tt dm all o fr M K':=by
 unfold bJ gP
 rw[hg]
 simp only[dE,bn,h]
theorem mR {o:Oper} {d:Nat} {u:AV} (hg:o.guard=none) (hd:o.dst=some d) (hq:GU o.op=true) (hu:nQ tt o.op ((aJ o.op).map (cm fr))= .val u):bJ P tt dm all o fr M K=K (fr.set d u) M:=by
 have hs:∀us K',bf P tt dm o us M K'=fg (nQ tt o.op us) fun u=>K' u M:=fun us K'=>by
  unfold bf
  unfold GU at hq
  split at hq
  all_goals first
   |(rename_i e;rw[e];cases dm with
     |none=>rfl
     |some r=>cases r<;>rfl)
   |exact absurd hq (by decide)
 unfold bJ gP
 rw[hg]
 simp only[dE,bn,hs,hu,hd,ca,fg,aK]
theorem vG {f:Nat->Prop}:∀{l:List Nat},lA l f↔∀i∈l,f i
 |[]=>by simp[lA]
 |i::l=>by rw[lA,vG];simp
theorem bD {done:List Nat} {i:Nat}:i∈bM all done↔i∉done/\∃o,all[i]? =some o/\∀e∈o.after.toList,Region.binds .any e=true->e.on<all.length/\e.on∈done:=by
 unfold bM
 rw[List.mem_filter,List.mem_range]
 constructor
 ·rintro⟨h1,h2⟩
  rw[Bool.and_eq_true] at h2
  refine⟨fun h=>?_,?_⟩
  ·have:=h2.1;rw[fq.2 h] at this;cases this
  ·have h3:=h2.2
   cases ho:all[i]? with
   |none=>rw[ho] at h3;cases h3
   |some o=>
    rw[ho] at h3
    refine⟨o,rfl,fun e he hb=>?_⟩
    have:=List.all_eq_true.1 h3 e he
    rw[hb] at this
    simpa[fq] using this
 ·rintro⟨h1,o,ho,h2⟩
  have hlt:i<all.length:=by
   rcases Nat.lt_or_ge i all.length with h|h
   ·exact h
   ·rw[List.getElem?_eq_none h] at ho;cases ho
  refine⟨hlt,?_⟩
  rw[ho,Bool.and_eq_true]
  refine⟨?_,List.all_eq_true.2 fun e he=>?_⟩
  ·cases hh:done.any (Nat.beq i) with
   |true=>exact absurd (fq.1 hh) h1
   |false=>rfl
  ·cases hb:Region.binds .any e with
   |false=>rfl
   |true=>
    obtain⟨h3,h4⟩:=h2 e he hb
    have:done.any (Nat.beq e.on)=true:=fq.2 h4
    simp[h3,this]
theorem qu {d1 d2:List Nat} (h:∀i,i∈d1↔i∈d2):bM all d1=bM all d2:=by
 have e:∀i,d1.any (Nat.beq i)=d2.any (Nat.beq i):=fun i=>by
  rw[Bool.eq_iff_iff,fq,fq,h]
 unfold bM
 simp only[e]
theorem gZ:∀(n:Nat) (d1 d2:List Nat) (_:∀i,i∈d1↔i∈d2),aV P tt dm all K n d1=aV P tt dm all K n d2
 |0,d1,d2,h=>by
  funext fr M
  rw[aV,aV,qu h]
 |n+1,d1,d2,h=>by
  funext fr M
  rw[aV,aV,qu h]
  cases bM all d2 with
  |nil=>rfl
  |cons i l=>
   have e:∀j,aV P tt dm all K n (j::d1)=aV P tt dm all K n (j::d2):=fun j=>gZ n _ _ fun i=>by rw[List.mem_cons,List.mem_cons,h]
   simp only[e]
theorem cA {n:Nat} {done:List Nat} (h:bM all done≠[]):aV P tt dm all K (n+1) done fr M↔∀j∈bM all done,rB P tt dm all j fr M (aV P tt dm all K n (j::done)):=by
 rw[aV]
 cases hr:bM all done with
 |nil=>exact absurd hr h
 |cons i l=>exact vG
theorem bI {j:Nat} {o:Oper} (h:all[j]? =some o):rB P tt dm all j fr M K=bJ P tt dm all o fr M K:=by
 unfold rB;rw[h]
theorem EG {q:Nat} {o:Oper} {d:Nat} (hok:CG all q=true) (ho:all[q]? =some o) (hd:o.dst=some d):∀(n:Nat) (done:List Nat) (fr:List AV) (M:ah) (u:AV),q∈bM all done->nQ tt o.op ((aJ o.op).map (cm fr))= .val u->
  (aV P tt dm all K (n+1) done fr M↔aV P tt dm all K n (q::done) (fr.set d u) M):=by
 unfold CG at hok
 rw[ho] at hok
 simp only[hd,Bool.and_eq_true,Option.isNone_iff_eq_none] at hok
 obtain⟨⟨hqt,hg⟩,hall⟩:=hok
 have hpair:∀j x,all[j]? =some x->j≠q->x.guard=none/\qt d x.dst=true/\(dk d (aJ x.op)=false\/eg x q=true)/\∀e,x.dst=some e->dk e (aJ o.op)=false\/eg o j=true:=fun j x hx hne=>by
  have hj:j<all.length:=by
   rcases Nat.lt_or_ge j all.length with h|h
   ·exact h
   ·rw[List.getElem?_eq_none h] at hx;cases hx
  have:=List.all_eq_true.1 hall j (List.mem_range.2 hj)
  rw[hx] at this
  have hb:Nat.beq j q=false:=by cases h:Nat.beq j q with|false=>rfl|true=>exact absurd (Nat.eq_of_beq_eq_true h) hne
  simp only[hb,Bool.false_or,Bool.and_eq_true,Option.isNone_iff_eq_none,Bool.or_eq_true,Bool.not_eq_true'] at this
  obtain⟨⟨⟨h1,h2⟩,h3⟩,h4⟩:=this
  refine⟨h1,h2,h3,fun e he=>?_⟩
  rw[he] at h4
  simpa using h4
 have edge:∀{x:Oper} {k:Nat} {done:List Nat},eg x k=true->(∀e∈x.after.toList,Region.binds .any e=true->e.on<all.length/\e.on∈done)->k∈done:=fun{x k done} he h=>by
  unfold eg at he
  obtain⟨e,hm,hb⟩:=List.any_eq_true.1 he
  rw[Bool.and_eq_true] at hb
  have:=(h e hm hb.1).2
  rwa [Nat.eq_of_beq_eq_true hb.2] at this
 intro n
 induction n with
 |zero=>
  intro done fr M u hq hu
  have hne:bM all done≠[]:=List.ne_nil_of_mem hq
  rw[cA hne]
  constructor
  ·intro h
   have:=h q hq
   rw[bI ho,mR hg hd hqt hu] at this
   exact this
  ·intro h j hj
   by_cases e:j=q
   ·subst e
    rw[bI ho,mR hg hd hqt hu]
    exact h
   ·exfalso
    have hj2:j∈bM all (q::done):=by
     rw[bD] at hj⊢
     obtain⟨h1,x,hx,h2⟩:=hj
     exact⟨fun h=>by rcases List.mem_cons.1 h with h|h;exact e h;exact h1 h,x,hx,fun e he hb=>⟨(h2 e he hb).1,List.mem_cons_of_mem _ (h2 e he hb).2⟩⟩
    rw[aV] at h
    cases hr:bM all (q::done) with
    |nil=>rw[hr] at hj2;cases hj2
    |cons a l=>rw[hr] at h;exact h
 |succ m ih=>
  intro done fr M u hq hu
  have hne:bM all done≠[]:=List.ne_nil_of_mem hq
  rw[cA hne]
  constructor
  ·intro h
   have:=h q hq
   rw[bI ho,mR hg hd hqt hu] at this
   exact this
  ·intro h j hj
   by_cases e:j=q
   ·subst e
    rw[bI ho,mR hg hd hqt hu]
    exact h
   ·have hj':=bD.1 hj
    have hq':=bD.1 hq
    obtain⟨h1,x,hx,h2⟩:=hj'
    obtain⟨g1,o',ho',g2⟩:=hq'
    rw[ho] at ho';cases ho'
    obtain⟨p1,p2,p3,p4⟩:=hpair j x hx e
    have hj2:j∈bM all (q::done):=bD.2 ⟨fun h=>by rcases List.mem_cons.1 h with h|h;exact e h;exact h1 h,x,hx,fun e he hb=>⟨(h2 e he hb).1,List.mem_cons_of_mem _ (h2 e he hb).2⟩⟩
    have hq2:q∈bM all (j::done):=bD.2 ⟨fun h=>by rcases List.mem_cons.1 h with h|h;exact e h.symm;exact g1 h,o,ho,fun e he hb=>⟨(g2 e he hb).1,List.mem_cons_of_mem _ (g2 e he hb).2⟩⟩
    have hux:dk d (aJ x.op)=false:=p3.resolve_right fun he=>g1 (edge he h2)
    have h3:=(cA (List.ne_nil_of_mem hj2)).1 h j hj2
    rw[bI hx,nJ p1 p2 hux] at h3
    rw[bI hx]
    refine Eq.mp (kI p1 fun w M'=>?_) h3
    rw[gZ m (j::q::done) (q::j::done) fun i=>by simp only[List.mem_cons];exact⟨fun h=>by rcases h with h|h|h<;>simp[h],fun h=>by rcases h with h|h|h<;>simp[h]⟩]
    refine propext (ih (j::done) (ca fr x.dst w) M' u hq2 ?_).symm
    rw[<-hu]
    congr 1
    cases hxd:x.dst with
    |none=>rfl
    |some e2=>
     have:dk e2 (aJ o.op)=false:=(p4 e2 hxd).resolve_right fun he=>h1 (edge he g2)
     exact gG this
theorem vH {qs:List Nat} (hqs:qs.all (CG all)=true):∀(n:Nat) (done:List Nat),n9 P tt dm all qs K n done=aV P tt dm all K n done
 |0,done=>by
  funext fr M
  rw[n9,aV]
  cases bM all done<;>rfl
 |n+1,done=>by
  funext fr M
  have e:∀j,n9 P tt dm all qs K n (j::done)=aV P tt dm all K n (j::done):=fun j=>vH hqs n _
  rw[n9]
  simp only[e]
  cases hr:bM all done with
  |nil=>rw[aV,hr]
  |cons i l=>
   have hk:aV P tt dm all K (n+1) done fr M=lA (i::l) fun j=>rB P tt dm all j fr M (aV P tt dm all K n (j::done)):=by rw[aV,hr]
   simp only
   cases hf:tv qs (i::l) with
   |none=>exact hk.symm
   |some q=>
    simp only
    obtain⟨h1,h2⟩:=mQ hf
    have hok:=List.all_eq_true.1 hqs q h1
    rw[<-hk]
    unfold H5
    cases ho:all[q]? with
    |none=>rfl
    |some o=>
     simp only[dE]
     cases hu:nQ tt o.op ((aJ o.op).map (cm fr)) with
     |val u=>
      simp only[aK,bn]
      have hok':=hok
      unfold CG at hok'
      rw[ho] at hok'
      cases hd:o.dst with
      |none=>simp only[hd] at hok';cases hok'
      |some d=>exact propext (EG hok ho hd n done fr M u (by rw[hr];exact h2) hu).symm
     |_=>rfl
end
theorem Jq {P:Program} {tt:TT} {ops:List Oper} {fr:List AV} {M:ah} {K:List AV->ah->Prop} (qs:List Nat) (hqs:qs.all (CG ops)=true) (h:n9 P tt (some .own) ops qs K ops.length [] fr M):eZ P tt ops fr M K:=
 AU (by rw[vH hqs] at h;exact h)
end
section
theorem H6 {P:Program} {tt:TT} {draw:Option aP} {all r:List Oper} {o:Oper} {fr fr':List AV} {M:ah} {K:List AV->ah->Prop} (u:AV) (hg:o.guard=none)
  (h:∀K':AV->ah->Prop,K' u M->bf P tt draw o ((aJ o.op).map (cm fr)) M K') (e:ca fr o.dst u=fr') (hk:dq P tt draw all r fr' M K):dq P tt draw all (o::r) fr M K:=by
 subst e
 simp only[dq]
 rw[bB]
 rw[hg]
 simp only[gv]
 exact h _ hk
theorem GV {P:Program} {tt:TT} {all r:List Oper} {fr:List AV} {M:ah} {K:List AV->ah->Prop} {d:Option Tmp} {a:Operand} {xs:Array Operand} {ts:Array TypeId} {ty:TypeId} {ps:String} {af:Array Edge} {f:FuncId} {caps us:List AV}
  (ha:cm fr a= .fn f caps) (hs:xs.toList.map (cm fr)=us) (h:ar P f (us++caps) M fun u M'=>qI fr d u fun fr'=>dq P tt none all r fr' M' K):
  dq P tt none all ({dst:=d,op:=.call {callee:=.value a,args:=xs,argTypes:=ts},type:=ty,pos:=ps,after:=af,guard:=none}::r) fr M K:=by
 subst hs
 simp only[dq]
 rw[bB]
 simp only[gv,aJ,List.map_cons,ha,bf,ma]
 simp only[bn] at h
 exact h
theorem H7 {P:Program} {tt:TT} {draw:Option aP} {all:List Oper} {fr:List AV} {M:ah} {K:List AV->ah->Prop} (h:K fr M):dq P tt draw all [] fr M K:=h
theorem Gy {P:Program} {tt:TT} {D:List Nat} {a b:Code} {fr:List AV} {M:ah} {Q:cq} (h:cN P tt D a fr M fun e fr' M'=>match e with
  |.normal=>cN P tt D b fr' M' Q
  |.exit i=>Q (.exit i) fr' M'
  |.ret=>Q .ret fr' M'):cN P tt D (.seq a b) fr M Q:=h
theorem Gz {P:Program} {tt:TT} {D:List Nat} {id:Nat} {ops:Array Oper} {fr:List AV} {M:ah} {Q:cq} (h:dq P tt none ops.toList ops.toList fr M (Q .normal)):cN P tt D (.region id ops false) fr M Q:=h
theorem H8 {P:Program} {tt:TT} {draw:Option aP} {all r:List Oper} {fr frX:List AV} {M MX:ah} {K:List AV->ah->Prop} (h:∀K0:List AV->ah->Prop,K0 frX MX->dq P tt draw all r fr M K0) (hk:K frX MX):dq P tt draw all r fr M K:=h K hk
theorem Fu {P:Program} {tt:TT} {D:List Nat} {c:Operand} {x y:Code} {fr:List AV} {M:ah} {Q:cq} (hc:cm fr c= .bool true) (h:cN P tt D x fr M Q):cN P tt D (.cond c x y) fr M Q:=by
 simp only[cN,o8,hc];exact h
theorem Fv {P:Program} {tt:TT} {D:List Nat} {c:Operand} {x y:Code} {fr:List AV} {M:ah} {Q:cq} (hc:cm fr c= .bool false) (h:cN P tt D y fr M Q):cN P tt D (.cond c x y) fr M Q:=by
 simp only[cN,o8,hc];exact h
theorem GA {P:Program} {tt:TT} {D:List Nat} {fr:List AV} {M:ah} {Q:cq} (h:Q .normal fr M):cN P tt D .skip fr M Q:=h
def I6:Op->Bool
 |.move _| .fieldAddr _ _ _| .nilCheck _| .indexAddr _ _ _| .build _ _| .field _ _ _| .load _ _=>true
 |_=>false
def CH (tt:TT) (op:Op) (us:List AV):Rs:=match op with
 |.load t _=>match us with
  |[.pd cells]=>eM tt t cells
  |_=>.no
 |op=>nQ tt op us
def CI (all:List Oper) (q:Nat):Bool:=match all[q]? with
 |none=>false
 |some o=>match o.dst with
  |none=>false
  |some d=>I6 o.op&&o.guard.isNone&&(List.range all.length).all fun j=>Nat.beq j q||match all[j]? with
   |none=>true
   |some x=>x.guard.isNone&&qt d x.dst&&(!(dk d (aJ x.op))||eg x q)&&(match x.dst with|none=>true|some e=>!(dk e (aJ o.op))||eg o j)
def H9 (tt:TT) (all:List Oper) (q:Nat) (fr:List AV) (k1:List AV->Prop) (k2:Prop):Prop:=match all[q]? with
 |none=>k2
 |some o=>ud fr (aJ o.op) fun us=>match CH tt o.op us with
  |.val u=>j9 u fun u=>qI fr o.dst u k1
  |_=>k2
def ob (P:Program) (tt:TT) (d:Option aP) (all:List Oper) (qs:List Nat) (K:List AV->ah->Prop):Nat->List Nat->List AV->ah->Prop
 |0,done,fr,M=>match bM all done with
  |[]=>K fr M
  |_::_=>False
 |n+1,done,fr,M=>match bM all done with
  |[]=>K fr M
  |i::l=>match tv qs (i::l) with
   |none=>lA (i::l) fun j=>rB P tt d all j fr M (ob P tt d all qs K n (j::done))
   |some q=>H9 tt all q fr (fun fr'=>ob P tt d all qs K n (q::done) fr' M) (lA (i::l) fun j=>rB P tt d all j fr M (ob P tt d all qs K n (j::done)))
section
variable {P:Program} {tt:TT} {dm:Option aP} {all:List Oper} {K K':List AV->ah->Prop} {fr:List AV} {M:ah}
theorem oQ {o:Oper} {d:Nat} {u:AV} (hdm:dm=none\/dm=some .own) (hg:o.guard=none) (hd:o.dst=some d) (hq:I6 o.op=true) (hu:CH tt o.op ((aJ o.op).map (cm fr))= .val u):bJ P tt dm all o fr M K=K (fr.set d u) M:=by
 by_cases hb:GU o.op=true
 ·refine mR hg hd hb ?_
  rw[<-hu]
  unfold GU at hb
  split at hb
  all_goals first
   |(rename_i e;rw[e];rfl)
   |exact absurd hb (by decide)
 ·have:∃t x,o.op= .load t x:=by
   unfold I6 at hq
   unfold GU at hb
   split at hq
   all_goals first
    |exact⟨_,_,by assumption⟩
    |(exfalso;apply hb;rename_i e;rw[e])
    |exact absurd hq (by decide)
  obtain⟨t,x,e⟩:=this
  rw[e] at hu
  have hu2:CH tt (.load t x) [cm fr x]= .val u:=hu
  unfold bJ gP
  rw[hg]
  simp only[dE,bn,hd,ca]
  unfold bf
  rw[e]
  show fg (g9 dm tt (.load t x) [cm fr x] M) (fun u=>K (fr.set d u) M)=K (fr.set d u) M
  have hm:g9 dm tt (.load t x) [cm fr x] M=fh tt t M (cm fr x):=by
   rcases hdm with rfl|rfl<;>rfl
  rw[hm]
  unfold CH at hu2
  cases hx:cm fr x with
  |pd cells=>
   rw[hx] at hu2
   show fg (eM tt t cells) _=_
   have h3:eM tt t cells= .val u:=hu2
   rw[h3]
   simp only[fg,aK]
  |_=>rw[hx] at hu2;cases hu2
theorem EH (hdm:dm=none\/dm=some .own) {q:Nat} {o:Oper} {d:Nat} (hok:CI all q=true) (ho:all[q]? =some o) (hd:o.dst=some d):∀(n:Nat) (done:List Nat) (fr:List AV) (M:ah) (u:AV),q∈bM all done->CH tt o.op ((aJ o.op).map (cm fr))= .val u->
  (aV P tt dm all K (n+1) done fr M↔aV P tt dm all K n (q::done) (fr.set d u) M):=by
 unfold CI at hok
 rw[ho] at hok
 simp only[hd,Bool.and_eq_true,Option.isNone_iff_eq_none] at hok
 obtain⟨⟨hqt,hg⟩,hall⟩:=hok
 have hpair:∀j x,all[j]? =some x->j≠q->x.guard=none/\qt d x.dst=true/\(dk d (aJ x.op)=false\/eg x q=true)/\∀e,x.dst=some e->dk e (aJ o.op)=false\/eg o j=true:=fun j x hx hne=>by
  have hj:j<all.length:=by
   rcases Nat.lt_or_ge j all.length with h|h
   ·exact h
   ·rw[List.getElem?_eq_none h] at hx;cases hx
  have:=List.all_eq_true.1 hall j (List.mem_range.2 hj)
  rw[hx] at this
  have hb:Nat.beq j q=false:=by cases h:Nat.beq j q with|false=>rfl|true=>exact absurd (Nat.eq_of_beq_eq_true h) hne
  simp only[hb,Bool.false_or,Bool.and_eq_true,Option.isNone_iff_eq_none,Bool.or_eq_true,Bool.not_eq_true'] at this
  obtain⟨⟨⟨h1,h2⟩,h3⟩,h4⟩:=this
  refine⟨h1,h2,h3,fun e he=>?_⟩
  rw[he] at h4
  simpa using h4
 have edge:∀{x:Oper} {k:Nat} {done:List Nat},eg x k=true->(∀e∈x.after.toList,Region.binds .any e=true->e.on<all.length/\e.on∈done)->k∈done:=fun{x k done} he h=>by
  unfold eg at he
  obtain⟨e,hm,hb⟩:=List.any_eq_true.1 he
  rw[Bool.and_eq_true] at hb
  have:=(h e hm hb.1).2
  rwa [Nat.eq_of_beq_eq_true hb.2] at this
 intro n
 induction n with
 |zero=>
  intro done fr M u hq hu
  have hne:bM all done≠[]:=List.ne_nil_of_mem hq
  rw[cA hne]
  constructor
  ·intro h
   have:=h q hq
   rw[bI ho,oQ hdm hg hd hqt hu] at this
   exact this
  ·intro h j hj
   by_cases e:j=q
   ·subst e
    rw[bI ho,oQ hdm hg hd hqt hu]
    exact h
   ·exfalso
    have hj2:j∈bM all (q::done):=by
     rw[bD] at hj⊢
     obtain⟨h1,x,hx,h2⟩:=hj
     exact⟨fun h=>by rcases List.mem_cons.1 h with h|h;exact e h;exact h1 h,x,hx,fun e he hb=>⟨(h2 e he hb).1,List.mem_cons_of_mem _ (h2 e he hb).2⟩⟩
    rw[aV] at h
    cases hr:bM all (q::done) with
    |nil=>rw[hr] at hj2;cases hj2
    |cons a l=>rw[hr] at h;exact h
 |succ m ih=>
  intro done fr M u hq hu
  have hne:bM all done≠[]:=List.ne_nil_of_mem hq
  rw[cA hne]
  constructor
  ·intro h
   have:=h q hq
   rw[bI ho,oQ hdm hg hd hqt hu] at this
   exact this
  ·intro h j hj
   by_cases e:j=q
   ·subst e
    rw[bI ho,oQ hdm hg hd hqt hu]
    exact h
   ·have hj':=bD.1 hj
    have hq':=bD.1 hq
    obtain⟨h1,x,hx,h2⟩:=hj'
    obtain⟨g1,o',ho',g2⟩:=hq'
    rw[ho] at ho';cases ho'
    obtain⟨p1,p2,p3,p4⟩:=hpair j x hx e
    have hj2:j∈bM all (q::done):=bD.2 ⟨fun h=>by rcases List.mem_cons.1 h with h|h;exact e h;exact h1 h,x,hx,fun e he hb=>⟨(h2 e he hb).1,List.mem_cons_of_mem _ (h2 e he hb).2⟩⟩
    have hq2:q∈bM all (j::done):=bD.2 ⟨fun h=>by rcases List.mem_cons.1 h with h|h;exact e h.symm;exact g1 h,o,ho,fun e he hb=>⟨(g2 e he hb).1,List.mem_cons_of_mem _ (g2 e he hb).2⟩⟩
    have hux:dk d (aJ x.op)=false:=p3.resolve_right fun he=>g1 (edge he h2)
    have h3:=(cA (List.ne_nil_of_mem hj2)).1 h j hj2
    rw[bI hx,nJ p1 p2 hux] at h3
    rw[bI hx]
    refine Eq.mp (kI p1 fun w M'=>?_) h3
    rw[gZ m (j::q::done) (q::j::done) fun i=>by simp only[List.mem_cons];exact⟨fun h=>by rcases h with h|h|h<;>simp[h],fun h=>by rcases h with h|h|h<;>simp[h]⟩]
    refine propext (ih (j::done) (ca fr x.dst w) M' u hq2 ?_).symm
    rw[<-hu]
    congr 1
    cases hxd:x.dst with
    |none=>rfl
    |some e2=>
     have:dk e2 (aJ o.op)=false:=(p4 e2 hxd).resolve_right fun he=>h1 (edge he g2)
     exact gG this
theorem vJ (hdm:dm=none\/dm=some .own) {qs:List Nat} (hqs:qs.all (CI all)=true):∀(n:Nat) (done:List Nat),ob P tt dm all qs K n done=aV P tt dm all K n done
 |0,done=>by
  funext fr M
  rw[ob,aV]
  cases bM all done<;>rfl
 |n+1,done=>by
  funext fr M
  have e:∀j,ob P tt dm all qs K n (j::done)=aV P tt dm all K n (j::done):=fun j=>vJ hdm hqs n _
  rw[ob]
  simp only[e]
  cases hr:bM all done with
  |nil=>rw[aV,hr]
  |cons i l=>
   have hk:aV P tt dm all K (n+1) done fr M=lA (i::l) fun j=>rB P tt dm all j fr M (aV P tt dm all K n (j::done)):=by rw[aV,hr]
   simp only
   cases hf:tv qs (i::l) with
   |none=>exact hk.symm
   |some q=>
    simp only
    obtain⟨h1,h2⟩:=mQ hf
    have hok:=List.all_eq_true.1 hqs q h1
    rw[<-hk]
    unfold H9
    cases ho:all[q]? with
    |none=>rfl
    |some o=>
     simp only[dE]
     cases hu:CH tt o.op ((aJ o.op).map (cm fr)) with
     |val u=>
      simp only[aK,bn]
      have hok':=hok
      unfold CI at hok'
      rw[ho] at hok'
      cases hd:o.dst with
      |none=>simp only[hd] at hok';cases hok'
      |some d=>exact propext (EH hdm hok ho hd n done fr M u (by rw[hr];exact h2) hu).symm
     |_=>rfl
end
theorem Jr {P:Program} {tt:TT} {ops:List Oper} {fr:List AV} {M:ah} {K:List AV->ah->Prop} (qs:List Nat) (hqs:qs.all (CI ops)=true) (h:ob P tt (some .own) ops qs K ops.length [] fr M):eZ P tt ops fr M K:=
 AU (by rw[vJ (.inr rfl) hqs] at h;exact h)
end
section
def EI:Op->Bool
 |.move _| .fieldAddr _ _ _| .nilCheck _| .indexAddr _ _ _| .build _ _| .field _ _ _| .load _ _| .binOp _ _ _ _ _| .unOp _ _ _| .extract _ _| .assign _=>true
 |_=>false
def GW (op:Op) (us:List AV):Bool:=match op with
 |.load _ _=>match us with
  |[.pd _]=>true
  |_=>false
 |_=>true
def Dn:Rs->Prop
 |.no=>False
 |.val _=>True
 |.need c _=>c
 |.arith c _ _=>c
 |.cmp _ _=>True
def EJ:Rs->AV
 |.no=>.top
 |.val u=>u
 |.need _ u=>u
 |.arith _ k n=>.int k (k.wrap n)
 |.cmp p i=>.bool (@decide p i)
theorem CJ {r:Rs} {K:AV->Prop}:fg r K↔Dn r/\K (EJ r):=by
 cases r with
 |no=>simp[fg,Dn]
 |val u=>simp only[fg,Dn,EJ,aK,true_and]
 |need c u=>simp only[fg,Dn,EJ,aK,bA]
 |arith c k n=>simp only[fg,Dn,EJ,dl]
 |cmp p i=>simp only[fg,Dn,EJ,gJ,true_and]
def CK (all:List Oper) (q:Nat):Bool:=match all[q]? with
 |none=>false
 |some o=>match o.dst with
  |none=>false
  |some d=>EI o.op&&o.guard.isNone&&(List.range all.length).all fun j=>Nat.beq j q||match all[j]? with
   |none=>true
   |some x=>x.guard.isNone&&qt d x.dst&&(!(dk d (aJ x.op))||eg x q)&&(match x.dst with|none=>true|some e=>!(dk e (aJ o.op))||eg o j)
def H' (all:List Oper) (q:Nat) (fr:List AV) (k1 k2:Prop):Prop:=match all[q]? with
 |none=>k2
 |some o=>ud fr (aJ o.op) fun us=>match GW o.op us with
  |true=>k1
  |false=>k2
def oc (P:Program) (tt:TT) (d:Option aP) (all:List Oper) (qs:List Nat) (K:List AV->ah->Prop):Nat->List Nat->List AV->ah->Prop
 |0,done,fr,M=>match bM all done with
  |[]=>K fr M
  |_::_=>False
 |n+1,done,fr,M=>match bM all done with
  |[]=>K fr M
  |i::l=>match tv qs (i::l) with
   |none=>lA (i::l) fun j=>rB P tt d all j fr M (oc P tt d all qs K n (j::done))
   |some q=>H' all q fr (rB P tt d all q fr M (oc P tt d all qs K n (q::done))) (lA (i::l) fun j=>rB P tt d all j fr M (oc P tt d all qs K n (j::done)))
section
variable {P:Program} {tt:TT} {dm:Option aP} {all:List Oper} {K K':List AV->ah->Prop} {fr:List AV} {M:ah}
theorem GB {o:Oper} {us:List AV} {K':AV->ah->Prop} (hdm:dm=none\/dm=some .own) (hq:EI o.op=true) (hr:GW o.op us=true):bf P tt dm o us M K'↔Dn (CH tt o.op us)/\K' (EJ (CH tt o.op us)) M:=by
 have hs:bf P tt dm o us M K'=fg (CH tt o.op us) fun u=>K' u M:=by
  unfold bf
  unfold EI at hq
  split at hq
  all_goals first
   |(rename_i e;rw[e];rcases hdm with rfl|rfl<;>rfl)
   |exact absurd hq (by decide)
   |(rename_i e;rw[e] at hr⊢
     unfold GW at hr
     split at hr
     ·rename_i e2
      cases e2
      split at hr
      ·rcases hdm with rfl|rfl<;>rfl
      ·cases hr
     ·rename_i hh
      exact absurd rfl (hh _ _))
 rw[hs]
 exact CJ
theorem tw {o:Oper} {d:Nat} (hdm:dm=none\/dm=some .own) (hg:o.guard=none) (hd:o.dst=some d) (hq:EI o.op=true) (hr:GW o.op ((aJ o.op).map (cm fr))=true):bJ P tt dm all o fr M K↔Dn (CH tt o.op ((aJ o.op).map (cm fr)))/\K (fr.set d (EJ (CH tt o.op ((aJ o.op).map (cm fr))))) M:=by
 unfold bJ gP
 rw[hg]
 simp only[dE,bn,hd,ca]
 exact GB hdm hq hr
theorem EK (hdm:dm=none\/dm=some .own) {q:Nat} {o:Oper} {d:Nat} (hok:CK all q=true) (ho:all[q]? =some o) (hd:o.dst=some d):∀(n:Nat) (done:List Nat) (fr:List AV) (M:ah),q∈bM all done->GW o.op ((aJ o.op).map (cm fr))=true->
  (aV P tt dm all K (n+1) done fr M↔rB P tt dm all q fr M (aV P tt dm all K n (q::done))):=by
 unfold CK at hok
 rw[ho] at hok
 simp only[hd,Bool.and_eq_true,Option.isNone_iff_eq_none] at hok
 obtain⟨⟨hqt,hg⟩,hall⟩:=hok
 have hpair:∀j x,all[j]? =some x->j≠q->x.guard=none/\qt d x.dst=true/\(dk d (aJ x.op)=false\/eg x q=true)/\∀e,x.dst=some e->dk e (aJ o.op)=false\/eg o j=true:=fun j x hx hne=>by
  have hj:j<all.length:=by
   rcases Nat.lt_or_ge j all.length with h|h
   ·exact h
   ·rw[List.getElem?_eq_none h] at hx;cases hx
  have:=List.all_eq_true.1 hall j (List.mem_range.2 hj)
  rw[hx] at this
  have hb:Nat.beq j q=false:=by cases h:Nat.beq j q with|false=>rfl|true=>exact absurd (Nat.eq_of_beq_eq_true h) hne
  simp only[hb,Bool.false_or,Bool.and_eq_true,Option.isNone_iff_eq_none,Bool.or_eq_true,Bool.not_eq_true'] at this
  obtain⟨⟨⟨h1,h2⟩,h3⟩,h4⟩:=this
  refine⟨h1,h2,h3,fun e he=>?_⟩
  rw[he] at h4
  simpa using h4
 have edge:∀{x:Oper} {k:Nat} {done:List Nat},eg x k=true->(∀e∈x.after.toList,Region.binds .any e=true->e.on<all.length/\e.on∈done)->k∈done:=fun{x k done} he h=>by
  unfold eg at he
  obtain⟨e,hm,hb⟩:=List.any_eq_true.1 he
  rw[Bool.and_eq_true] at hb
  have:=(h e hm hb.1).2
  rwa [Nat.eq_of_beq_eq_true hb.2] at this
 intro n
 induction n with
 |zero=>
  intro done fr M hq hu
  have hne:bM all done≠[]:=List.ne_nil_of_mem hq
  rw[cA hne]
  refine⟨fun h=>h q hq,fun h j hj=>?_⟩
  by_cases e:j=q
  ·subst e;exact h
  ·exfalso
   have hj2:j∈bM all (q::done):=by
    rw[bD] at hj⊢
    obtain⟨h1,x,hx,h2⟩:=hj
    exact⟨fun h=>by rcases List.mem_cons.1 h with h|h;exact e h;exact h1 h,x,hx,fun e he hb=>⟨(h2 e he hb).1,List.mem_cons_of_mem _ (h2 e he hb).2⟩⟩
   rw[bI ho,tw hdm hg hd hqt hu] at h
   have h:=h.2
   rw[aV] at h
   cases hr:bM all (q::done) with
   |nil=>rw[hr] at hj2;cases hj2
   |cons a l=>rw[hr] at h;exact h
 |succ m ih=>
  intro done fr M hq hu
  have hne:bM all done≠[]:=List.ne_nil_of_mem hq
  rw[cA hne]
  refine⟨fun h=>h q hq,fun h j hj=>?_⟩
  by_cases e:j=q
  ·subst e;exact h
  ·have hG:=h
   rw[bI ho,tw hdm hg hd hqt hu] at hG
   obtain⟨hP,hG⟩:=hG
   have hj':=bD.1 hj
   have hq':=bD.1 hq
   obtain⟨h1,x,hx,h2⟩:=hj'
   obtain⟨g1,o',ho',g2⟩:=hq'
   rw[ho] at ho';cases ho'
   obtain⟨p1,p2,p3,p4⟩:=hpair j x hx e
   have hj2:j∈bM all (q::done):=bD.2 ⟨fun h=>by rcases List.mem_cons.1 h with h|h;exact e h;exact h1 h,x,hx,fun e he hb=>⟨(h2 e he hb).1,List.mem_cons_of_mem _ (h2 e he hb).2⟩⟩
   have hq2:q∈bM all (j::done):=bD.2 ⟨fun h=>by rcases List.mem_cons.1 h with h|h;exact e h.symm;exact g1 h,o,ho,fun e he hb=>⟨(g2 e he hb).1,List.mem_cons_of_mem _ (g2 e he hb).2⟩⟩
   have hux:dk d (aJ x.op)=false:=p3.resolve_right fun he=>g1 (edge he h2)
   have h3:=(cA (List.ne_nil_of_mem hj2)).1 hG j hj2
   rw[bI hx,nJ p1 p2 hux] at h3
   rw[bI hx]
   refine Eq.mp (kI p1 fun w M'=>?_) h3
   rw[gZ m (j::q::done) (q::j::done) fun i=>by simp only[List.mem_cons];exact⟨fun h=>by rcases h with h|h|h<;>simp[h],fun h=>by rcases h with h|h|h<;>simp[h]⟩]
   have hus:(aJ o.op).map (cm (ca fr x.dst w))=(aJ o.op).map (cm fr):=by
    cases hxd:x.dst with
    |none=>rfl
    |some e2=>
     have:dk e2 (aJ o.op)=false:=(p4 e2 hxd).resolve_right fun he=>h1 (edge he g2)
     exact gG this
   have h4:=ih (j::done) (ca fr x.dst w) M' hq2 (by rw[hus];exact hu)
   rw[bI ho,tw hdm hg hd hqt (by rw[hus];exact hu),hus] at h4
   exact propext ⟨fun hh=>h4.2 ⟨hP,hh⟩,fun hh=>(h4.1 hh).2⟩
theorem vK (hdm:dm=none\/dm=some .own) {qs:List Nat} (hqs:qs.all (CK all)=true):∀(n:Nat) (done:List Nat),oc P tt dm all qs K n done=aV P tt dm all K n done
 |0,done=>by
  funext fr M
  rw[oc,aV]
  cases bM all done<;>rfl
 |n+1,done=>by
  funext fr M
  have e:∀j,oc P tt dm all qs K n (j::done)=aV P tt dm all K n (j::done):=fun j=>vK hdm hqs n _
  rw[oc]
  simp only[e]
  cases hr:bM all done with
  |nil=>rw[aV,hr]
  |cons i l=>
   have hk:aV P tt dm all K (n+1) done fr M=lA (i::l) fun j=>rB P tt dm all j fr M (aV P tt dm all K n (j::done)):=by rw[aV,hr]
   simp only
   cases hf:tv qs (i::l) with
   |none=>exact hk.symm
   |some q=>
    simp only
    obtain⟨h1,h2⟩:=mQ hf
    have hok:=List.all_eq_true.1 hqs q h1
    rw[<-hk]
    unfold H'
    cases ho:all[q]? with
    |none=>rfl
    |some o=>
     simp only[dE]
     cases hu:GW o.op ((aJ o.op).map (cm fr)) with
     |false=>rfl
     |true=>
      simp only
      have hok':=hok
      unfold CK at hok'
      rw[ho] at hok'
      cases hd:o.dst with
      |none=>simp only[hd] at hok';cases hok'
      |some d=>exact propext (EK hdm hok ho hd n done fr M (by rw[hr];exact h2) hu).symm
end
theorem I7 {P:Program} {tt:TT} {ops:List Oper} {fr:List AV} {M:ah} {K:List AV->ah->Prop} (qs:List Nat) (hqs:qs.all (CK ops)=true) (h:oc P tt (some .own) ops qs K ops.length [] fr M):eZ P tt ops fr M K:=
 AU (by rw[vK (.inr rfl) hqs] at h;exact h)
end
section
def Ia (all:List Oper) (l:Nat):Bool:=
 (List.range all.length).all fun q=>Nat.beq q l||match all[q]? with
  |none=>true
  |some o=>match o.dst with
   |none=>false
   |some d=>EI o.op&&o.guard.isNone&&ll all.length all q l&&(List.range all.length).all fun j=>Nat.beq j q||Nat.beq j l||match all[j]? with
    |none=>true
    |some x=>qt d x.dst&&(!(dk d (aJ x.op))||eg x q)
def oe (P:Program) (tt:TT) (all:List Oper) (K:List AV->ah->Prop):Nat->List Nat->List AV->ah->Prop
 |0,done,fr,M=>match bM all done with
  |[]=>K fr M
  |_::_=>False
 |n+1,done,fr,M=>match bM all done with
  |[]=>K fr M
  |i::_=>rB P tt none all i fr M (oe P tt all K n (i::done))
def zQ (all:List Oper) (done:List Nat):Prop:=∀j∈done,∀x,all[j]? =some x->∀e∈x.after.toList,Region.binds .any e=true->e.on∈done
section
variable {P:Program} {tt:TT} {all:List Oper} {K K':List AV->ah->Prop} {fr:List AV} {M:ah}
theorem GC {o:Oper} {us:List AV} {K':AV->ah->Prop} (hq:EI o.op=true):bf P tt none o us M K'↔Dn (g9 none tt o.op us M)/\K' (EJ (g9 none tt o.op us M)) M:=by
 have hs:bf P tt none o us M K'=fg (g9 none tt o.op us M) fun u=>K' u M:=by
  unfold bf
  unfold EI at hq
  split at hq
  all_goals first
   |(rename_i e;rw[e])
   |exact absurd hq (by decide)
 rw[hs]
 exact CJ
def GX (tt:TT) (o:Oper) (fr:List AV) (M:ah):Rs:=g9 none tt o.op ((aJ o.op).map (cm fr)) M
theorem mS {o:Oper} {d:Nat} (hg:o.guard=none) (hd:o.dst=some d) (hq:EI o.op=true):bJ P tt none all o fr M K↔Dn (GX tt o fr M)/\K (fr.set d (EJ (GX tt o fr M))) M:=by
 unfold bJ gP GX
 rw[hg]
 simp only[dE,bn,hd,ca]
 exact GC hq
theorem yc {o:Oper} {d:Nat} {u:AV} (hu:dk d (aJ o.op)=false):GX tt o (fr.set d u) M=GX tt o fr M:=by
 unfold GX
 rw[gG hu]
theorem w7 {a b:Nat} (h:a≠b):Nat.beq a b=false:=by
 cases hb:Nat.beq a b with
 |false=>rfl
 |true=>exact absurd (Nat.eq_of_beq_eq_true hb) h
theorem tx {l:Nat} (hok:Ia all l=true) {q:Nat} {o:Oper} (ho:all[q]? =some o) (hql:q≠l):∃d,o.dst=some d/\EI o.op=true/\o.guard=none/\ll all.length all q l=true/\
  ∀j x,all[j]? =some x->j≠q->j≠l->qt d x.dst=true/\(dk d (aJ x.op)=false\/eg x q=true):=by
 have lt:∀{j:Nat} {x:Oper},all[j]? =some x->j<all.length:=fun{j x} h=>by
  rcases Nat.lt_or_ge j all.length with h2|h2
  ·exact h2
  ·rw[List.getElem?_eq_none h2] at h;cases h
 have h1:=List.all_eq_true.1 hok q (List.mem_range.2 (lt ho))
 rw[w7 hql,Bool.false_or,ho] at h1
 dsimp only at h1
 cases hd:o.dst with
 |none=>rw[hd] at h1;cases h1
 |some d=>
  rw[hd] at h1
  simp only[Bool.and_eq_true,Option.isNone_iff_eq_none] at h1
  obtain⟨⟨⟨h2,h3⟩,h4⟩,h5⟩:=h1
  refine⟨d,rfl,h2,h3,h4,fun j x hx hjq hjl=>?_⟩
  have h6:=List.all_eq_true.1 h5 j (List.mem_range.2 (lt hx))
  rw[w7 hjq,w7 hjl,hx] at h6
  simp only[Bool.false_or,Bool.and_eq_true,Bool.or_eq_true,Bool.not_eq_true'] at h6
  exact h6
theorem r7 {done:List Nat} (hc:zQ all done) {i:Nat}:∀(n j:Nat),ll n all i j=true->(∀x,all[j]? =some x->∀e∈x.after.toList,Region.binds .any e=true->e.on∈done)->i∈done
 |0,j,h,_=>by cases h
 |n+1,j,h,hj=>by
  rw[ll] at h
  cases hx:all[j]? with
  |none=>rw[hx] at h;cases h
  |some x=>
   rw[hx] at h
   dsimp only at h
   obtain⟨e,hm,hb⟩:=List.any_eq_true.1 h
   rw[Bool.and_eq_true,Bool.or_eq_true] at hb
   have he:=hj x hx e hm hb.1
   rcases hb.2 with h1|h1
   ·rw[<-of_decide_eq_true h1];exact he
   ·exact r7 hc n e.on h1 fun y hy=>hc e.on he y hy
theorem r8 {done:List Nat} (hc:zQ all done) {j:Nat} (hj:j∈bM all done):zQ all (j::done):=by
 intro k hk x hx e he hb
 rcases List.mem_cons.1 hk with rfl|hk
 ·obtain⟨_,o,ho,h⟩:=bD.1 hj
  rw[hx] at ho;cases ho
  exact List.mem_cons_of_mem _ (h e he hb).2
 ·exact List.mem_cons_of_mem _ (hc k hk x hx e he hb)
theorem tz {done:List Nat} {j q:Nat} (hj:j∈bM all done) (hne:j≠q):j∈bM all (q::done):=by
 obtain⟨h1,x,hx,h2⟩:=bD.1 hj
 exact bD.2 ⟨fun h=>by rcases List.mem_cons.1 h with h|h;exact hne h;exact h1 h,x,hx,fun e he hb=>⟨(h2 e he hb).1,List.mem_cons_of_mem _ (h2 e he hb).2⟩⟩
theorem r9 {l:Nat} (hok:Ia all l=true) {done:List Nat} (hc:zQ all done) (hl:l∈bM all done) {j:Nat} (hj:j∈bM all done):j=l:=by
 refine Classical.byContradiction fun hne=>?_
 obtain⟨h1,x,hx,_⟩:=bD.1 hj
 obtain⟨_,o,ho,h2⟩:=bD.1 hl
 obtain⟨d,_,_,_,hp,_⟩:=tx hok hx hne
 exact h1 (r7 hc _ _ hp fun y hy e he hb=>by rw[ho] at hy;cases hy;exact(h2 e he hb).2)
theorem EL {l:Nat} (hok:Ia all l=true) {q:Nat} (hql:q≠l):∀(n:Nat) (done:List Nat) (fr:List AV) (M:ah),zQ all done->q∈bM all done->
  (aV P tt none all K (n+1) done fr M↔rB P tt none all q fr M (aV P tt none all K n (q::done))):=by
 intro n
 induction n with
 |zero=>
  intro done fr M hc hq
  obtain⟨_,o,ho,_⟩:=bD.1 hq
  obtain⟨d,hd,hqt,hg,hp,hall⟩:=tx hok ho hql
  rw[cA (List.ne_nil_of_mem hq)]
  refine⟨fun h=>h q hq,fun h j hj=>?_⟩
  by_cases e:j=q
  ·subst e;exact h
  ·exfalso
   have hj2:=tz hj e
   rw[bI ho,mS hg hd hqt] at h
   have h:=h.2
   rw[aV] at h
   cases hr:bM all (q::done) with
   |nil=>rw[hr] at hj2;cases hj2
   |cons a r=>rw[hr] at h;exact h
 |succ m ih=>
  intro done fr M hc hq
  obtain⟨g1,o,ho,g2⟩:=bD.1 hq
  obtain⟨d,hd,hqt,hg,hp,hall⟩:=tx hok ho hql
  rw[cA (List.ne_nil_of_mem hq)]
  refine⟨fun h=>h q hq,fun h j hj=>?_⟩
  by_cases e:j=q
  ·subst e;exact h
  ·have hjl:j≠l:=fun hl=>by subst hl;exact e (r9 hok hc hj hq).symm
   obtain⟨h1,x,hx,h2⟩:=bD.1 hj
   obtain⟨dx,hdx,hqtx,hgx,_,hallx⟩:=tx hok hx hjl
   have edge:∀{x:Oper} {k:Nat},eg x k=true->(∀e∈x.after.toList,Region.binds .any e=true->e.on<all.length/\e.on∈done)->k∈done:=fun{x k} he h=>by
    unfold eg at he
    obtain⟨e,hm,hb⟩:=List.any_eq_true.1 he
    rw[Bool.and_eq_true] at hb
    have:=(h e hm hb.1).2
    rwa [Nat.eq_of_beq_eq_true hb.2] at this
   obtain⟨p2,p3⟩:=hall j x hx e hjl
   obtain⟨_,p4⟩:=hallx q o ho (fun h=>e h.symm) hql
   have hux:dk d (aJ x.op)=false:=p3.resolve_right fun he=>g1 (edge he h2)
   have huo:dk dx (aJ o.op)=false:=p4.resolve_right fun he=>h1 (edge he g2)
   have hdd:d≠dx:=by
    rw[hdx] at p2
    intro h3
    subst h3
    simp[qt] at p2
   have hj2:=tz hj e
   have hq2:=tz hq (fun h=>e h.symm)
   rw[bI ho,mS hg hd hqt] at h
   obtain⟨hP,hG⟩:=h
   have h3:=(cA (List.ne_nil_of_mem hj2)).1 hG j hj2
   rw[bI hx,mS hgx hdx hqtx,yc hux] at h3
   rw[bI hx,mS hgx hdx hqtx]
   refine⟨h3.1,(ih (j::done) _ _ (r8 hc hj) hq2).2 ?_⟩
   rw[bI ho,mS hg hd hqt,yc huo]
   refine⟨hP,?_⟩
   have h4:=h3.2
   rw[gZ m (j::q::done) (q::j::done) fun i=>by simp only[List.mem_cons];exact⟨fun h=>by rcases h with h|h|h<;>simp[h],fun h=>by rcases h with h|h|h<;>simp[h]⟩,List.set_comm _ _ hdd] at h4
   exact h4
theorem vL {l:Nat} (hok:Ia all l=true):∀(n:Nat) (done:List Nat),zQ all done->∀fr M,oe P tt all K n done fr M↔aV P tt none all K n done fr M
 |0,done,_,fr,M=>by
  rw[oe,aV]
  cases bM all done<;>exact Iff.rfl
 |n+1,done,hc,fr,M=>by
  cases hr:bM all done with
  |nil=>
   rw[oe,aV,hr]
  |cons i r=>
   have hi:i∈bM all done:=by rw[hr];exact List.mem_cons_self
   have e:oe P tt all K n (i::done)=aV P tt none all K n (i::done):=by
    funext fr M
    exact propext (vL hok n _ (r8 hc hi) fr M)
   have h0:oe P tt all K (n+1) done fr M=rB P tt none all i fr M (aV P tt none all K n (i::done)):=by
    rw[oe,hr]
    dsimp only
    rw[e]
   rw[h0]
   by_cases hil:i=l
   ·subst hil
    rw[cA (List.ne_nil_of_mem hi)]
    refine⟨fun h j hj=>?_,fun h=>h i hi⟩
    have:=r9 hok hc hi hj
    subst this
    exact h
   ·exact(EL hok hil n done fr M hc hi).symm
end
structure CL (K:List AV->ah->Prop) (fr:List AV) (M:ah):Prop where
 out:K fr M
theorem GY {K:List AV->ah->Prop} {fr:List AV} {M M':ah} (e:M=M') (h:K fr M'):CL K fr M:=⟨by rw[e];exact h⟩
theorem Js {P:Program} {tt:TT} {ops:List Oper} {fr:List AV} {M:ah} {K:List AV->ah->Prop} (l:Nat) (hok:Ia ops l=true) (h:oe P tt ops (CL K) ops.length [] fr M):eZ P tt ops fr M K:=by
 have e:CL K=K:=by
  funext fr M
  exact propext ⟨fun h=>h.out,fun h=>⟨h⟩⟩
 rw[e] at h
 exact Hk ((vL hok _ _ (fun j hj=>by cases hj) _ _).1 h)
end
end Go.Proofs.YtblcpnmnibcbbaaGreatDoor
