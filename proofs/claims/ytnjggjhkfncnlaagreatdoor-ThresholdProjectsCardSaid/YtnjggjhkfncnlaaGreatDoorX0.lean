import Derived.Test.YtnjggjhkfncnlaaGreatDoorY1
set_option linter.unusedVariables false
set_option linter.unusedSimpArgs false
namespace Go.Proofs.YtnjggjhkfncnlaaGreatDoor
def qtP : Op → Bool
 |.move _ | .fieldAddr _ _ _ | .nilCheck _ | .indexAddr _ _ _ | .build _ _ | .field _ _ _ | .load _ _ | .binOp _ _ _ _ _ | .unOp _ _ _ | .extract _ _ | .assign _=>true
 |_=>false
def rdP (op : Op) (us : List AV) : Bool:=match op with
 |.load _ _=>match us with
  |[.pd _]=>true
  |_=>false
 |_=>true
def rsP : Rs → Prop
 |.no=>False
 |.val _=>True
 |.need c _=>c
 |.arith c _ _=>c
 |.cmp _ _=>True
def rsV : Rs → AV
 |.no=>.top
 |.val u=>u
 |.need _ u=>u
 |.arith _ k n=>.int k (k.wrap n)
 |.cmp p i=>.bool (@decide p i)
theorem rsK_pv {r : Rs} {K : AV → Prop} : rsK r K ↔ rsP r ∧ K (rsV r):=by
 cases r with
 |no=>simp [rsK, rsP]
 |val u=>simp only [rsK, rsP, rsV, forceK_eq, true_and]
 |need c u=>simp only [rsK, rsP, rsV, forceK_eq, needK_iff]
 |arith c k n=>simp only [rsK, rsP, rsV, arithK_iff]
 |cmp p i=>simp only [rsK, rsP, rsV, cmpK_iff, true_and]
def qOkP (all : List Oper) (q : Nat) : Bool:=match all[q]? with
 |none=>false
 |some o=>match o.dst with
  |none=>false
  |some d=>qtP o.op && o.guard.isNone && (List.range all.length).all fun j=>Nat.beq j q || match all[j]? with
   |none=>true
   |some x=>x.guard.isNone && dneB d x.dst && (!(usesB d (opnds x.op)) || edgeB x q) && (match x.dst with | none=>true | some e=>!(usesB e (opnds o.op)) || edgeB o j)
def qstP (all : List Oper) (q : Nat) (fr : List AV) (k1 k2 : Prop) : Prop:=match all[q]? with
 |none=>k2
 |some o=>avsK fr (opnds o.op) fun us=>match rdP o.op us with
  |true=>k1
  |false=>k2
def ordsP (P : Program) (tt : TT) (d : Option DMode) (all : List Oper) (qs : List Nat) (K : List AV → Mem → Prop) : Nat → List Nat → List AV → Mem → Prop
 |0, done, fr, M=>match rdyK all done with
  |[]=>K fr M
  |_ :: _=>False
 |n + 1, done, fr, M=>match rdyK all done with
  |[]=>K fr M
  |i :: l=>match fstQ qs (i :: l) with
   |none=>ordN (i :: l) fun j=>stO P tt d all j fr M (ordsP P tt d all qs K n (j :: done))
   |some q=>qstP all q fr (stO P tt d all q fr M (ordsP P tt d all qs K n (q :: done))) (ordN (i :: l) fun j=>stO P tt d all j fr M (ordsP P tt d all qs K n (j :: done)))
section
variable {P : Program} {tt : TT} {dm : Option DMode} {all : List Oper} {K K' : List AV → Mem → Prop} {fr : List AV} {M : Mem}
theorem semK_p {o : Oper} {us : List AV} {K' : AV → Mem → Prop} (hdm : dm = none ∨ dm = some .own) (hq : qtP o.op = true) (hr : rdP o.op us = true) : semK P tt dm o us M K' ↔ rsP (evQ tt o.op us) ∧ K' (rsV (evQ tt o.op us)) M:=by
 have hs : semK P tt dm o us M K' = rsK (evQ tt o.op us) fun u=>K' u M:=by
  unfold semK
  unfold qtP at hq
  split at hq
  all_goals first
   |(rename_i e; rw [e]; rcases hdm with rfl | rfl <;> rfl)
   |exact absurd hq (by decide)
   |(rename_i e; rw [e] at hr ⊢
     unfold rdP at hr
     split at hr
     ·rename_i e2
      cases e2
      split at hr
      ·rcases hdm with rfl | rfl <;> rfl
      ·cases hr
     ·rename_i hh
      exact absurd rfl (hh _ _))
 rw [hs]
 exact rsK_pv
theorem stepK_p {o : Oper} {d : Nat} (hdm : dm = none ∨ dm = some .own) (hg : o.guard = none) (hd : o.dst = some d) (hq : qtP o.op = true) (hr : rdP o.op ((opnds o.op).map (avOf fr)) = true) : stepK P tt dm all o fr M K ↔ rsP (evQ tt o.op ((opnds o.op).map (avOf fr))) ∧ K (fr.set d (rsV (evQ tt o.op ((opnds o.op).map (avOf fr))))) M:=by
 unfold stepK guardK
 rw [hg]
 simp only [avsK_eq, putD_eq, hd, setD]
 exact semK_p hdm hq hr
theorem ordsK_p (hdm : dm = none ∨ dm = some .own) {q : Nat} {o : Oper} {d : Nat} (hok : qOkP all q = true) (ho : all[q]? = some o) (hd : o.dst = some d) : ∀ (n : Nat) (done : List Nat) (fr : List AV) (M : Mem), q ∈ rdyK all done → rdP o.op ((opnds o.op).map (avOf fr)) = true →
  (ordsK P tt dm all K (n + 1) done fr M ↔ stO P tt dm all q fr M (ordsK P tt dm all K n (q :: done))):=by
 unfold qOkP at hok
 rw [ho] at hok
 simp only [hd, Bool.and_eq_true, Option.isNone_iff_eq_none] at hok
 obtain ⟨⟨hqt, hg⟩, hall⟩:=hok
 have hpair : ∀ j x, all[j]? = some x → j ≠ q → x.guard = none ∧ dneB d x.dst = true ∧ (usesB d (opnds x.op) = false ∨ edgeB x q = true) ∧ ∀ e, x.dst = some e → usesB e (opnds o.op) = false ∨ edgeB o j = true:=fun j x hx hne=>by
  have hj : j < all.length:=by
   rcases Nat.lt_or_ge j all.length with h | h
   ·exact h
   ·rw [List.getElem?_eq_none h] at hx; cases hx
  have:=List.all_eq_true.1 hall j (List.mem_range.2 hj)
  rw [hx] at this
  have hb : Nat.beq j q = false:=by cases h : Nat.beq j q with | false=>rfl | true=>exact absurd (Nat.eq_of_beq_eq_true h) hne
  simp only [hb, Bool.false_or, Bool.and_eq_true, Option.isNone_iff_eq_none, Bool.or_eq_true, Bool.not_eq_true'] at this
  obtain ⟨⟨⟨h1, h2⟩, h3⟩, h4⟩:=this
  refine ⟨h1, h2, h3, fun e he=>?_⟩
  rw [he] at h4
  simpa using h4
 have edge : ∀ {x : Oper} {k : Nat} {done : List Nat}, edgeB x k = true → (∀ e ∈ x.after.toList, Region.binds .any e = true → e.on < all.length ∧ e.on ∈ done) → k ∈ done:=fun {x k done} he h=>by
  unfold edgeB at he
  obtain ⟨e, hm, hb⟩:=List.any_eq_true.1 he
  rw [Bool.and_eq_true] at hb
  have:=(h e hm hb.1).2
  rwa [Nat.eq_of_beq_eq_true hb.2] at this
 intro n
 induction n with
 |zero =>
  intro done fr M hq hu
  have hne : rdyK all done ≠ []:=List.ne_nil_of_mem hq
  rw [ordsK_all hne]
  refine ⟨fun h=>h q hq, fun h j hj=>?_⟩
  by_cases e : j = q
  ·subst e; exact h
  ·exfalso
   have hj2 : j ∈ rdyK all (q :: done):=by
    rw [rdyK_mem] at hj ⊢
    obtain ⟨h1, x, hx, h2⟩:=hj
    exact ⟨fun h=>by rcases List.mem_cons.1 h with h | h; exact e h; exact h1 h, x, hx, fun e he hb=>⟨(h2 e he hb).1, List.mem_cons_of_mem _ (h2 e he hb).2⟩⟩
   rw [stO_some ho, stepK_p hdm hg hd hqt hu] at h
   have h:=h.2
   rw [ordsK] at h
   cases hr : rdyK all (q :: done) with
   |nil=>rw [hr] at hj2; cases hj2
   |cons a l=>rw [hr] at h; exact h
 |succ m ih =>
  intro done fr M hq hu
  have hne : rdyK all done ≠ []:=List.ne_nil_of_mem hq
  rw [ordsK_all hne]
  refine ⟨fun h=>h q hq, fun h j hj=>?_⟩
  by_cases e : j = q
  ·subst e; exact h
  ·have hG:=h
   rw [stO_some ho, stepK_p hdm hg hd hqt hu] at hG
   obtain ⟨hP, hG⟩:=hG
   have hj':=rdyK_mem.1 hj
   have hq':=rdyK_mem.1 hq
   obtain ⟨h1, x, hx, h2⟩:=hj'
   obtain ⟨g1, o', ho', g2⟩:=hq'
   rw [ho] at ho'; cases ho'
   obtain ⟨p1, p2, p3, p4⟩:=hpair j x hx e
   have hj2 : j ∈ rdyK all (q :: done):=rdyK_mem.2 ⟨fun h=>by rcases List.mem_cons.1 h with h | h; exact e h; exact h1 h, x, hx, fun e he hb=>⟨(h2 e he hb).1, List.mem_cons_of_mem _ (h2 e he hb).2⟩⟩
   have hq2 : q ∈ rdyK all (j :: done):=rdyK_mem.2 ⟨fun h=>by rcases List.mem_cons.1 h with h | h; exact e h.symm; exact g1 h, o, ho, fun e he hb=>⟨(g2 e he hb).1, List.mem_cons_of_mem _ (g2 e he hb).2⟩⟩
   have hux : usesB d (opnds x.op) = false:=p3.resolve_right fun he=>g1 (edge he h2)
   have h3:=(ordsK_all (List.ne_nil_of_mem hj2)).1 hG j hj2
   rw [stO_some hx, stepK_set p1 p2 hux] at h3
   rw [stO_some hx]
   refine Eq.mp (stepK_congr p1 fun w M'=>?_) h3
   rw [ordsK_perm m (j :: q :: done) (q :: j :: done) fun i=>by simp only [List.mem_cons]; exact ⟨fun h=>by rcases h with h | h | h <;> simp [h], fun h=>by rcases h with h | h | h <;> simp [h]⟩]
   have hus : (opnds o.op).map (avOf (setD fr x.dst w)) = (opnds o.op).map (avOf fr):=by
    cases hxd : x.dst with
    |none=>rfl
    |some e2 =>
     have : usesB e2 (opnds o.op) = false:=(p4 e2 hxd).resolve_right fun he=>h1 (edge he g2)
     exact uses_avOf this
   have h4:=ih (j :: done) (setD fr x.dst w) M' hq2 (by rw [hus]; exact hu)
   rw [stO_some ho, stepK_p hdm hg hd hqt (by rw [hus]; exact hu), hus] at h4
   exact propext ⟨fun hh=>h4.2 ⟨hP, hh⟩, fun hh=>(h4.1 hh).2⟩
theorem ordsP_eq (hdm : dm = none ∨ dm = some .own) {qs : List Nat} (hqs : qs.all (qOkP all) = true) : ∀ (n : Nat) (done : List Nat), ordsP P tt dm all qs K n done = ordsK P tt dm all K n done
 |0, done=>by
  funext fr M
  rw [ordsP, ordsK]
  cases rdyK all done <;> rfl
 |n + 1, done=>by
  funext fr M
  have e : ∀ j, ordsP P tt dm all qs K n (j :: done) = ordsK P tt dm all K n (j :: done):=fun j=>ordsP_eq hdm hqs n _
  rw [ordsP]
  simp only [e]
  cases hr : rdyK all done with
  |nil=>rw [ordsK, hr]
  |cons i l =>
   have hk : ordsK P tt dm all K (n + 1) done fr M = ordN (i :: l) fun j=>stO P tt dm all j fr M (ordsK P tt dm all K n (j :: done)):=by rw [ordsK, hr]
   simp only
   cases hf : fstQ qs (i :: l) with
   |none=>exact hk.symm
   |some q =>
    simp only
    obtain ⟨h1, h2⟩:=fstQ_mem hf
    have hok:=List.all_eq_true.1 hqs q h1
    rw [← hk]
    unfold qstP
    cases ho : all[q]? with
    |none=>rfl
    |some o =>
     simp only [avsK_eq]
     cases hu : rdP o.op ((opnds o.op).map (avOf fr)) with
     |false=>rfl
     |true =>
      simp only
      have hok':=hok
      unfold qOkP at hok'
      rw [ho] at hok'
      cases hd : o.dst with
      |none=>simp only [hd] at hok'; cases hok'
      |some d=>exact propext (ordsK_p hdm hok ho hd n done fr M (by rw [hr]; exact h2) hu).symm
end
theorem drawP1 {P : Program} {tt : TT} {ops : List Oper} {fr : List AV} {M : Mem} {K : List AV → Mem → Prop} (qs : List Nat) (hqs : qs.all (qOkP ops) = true) (h : ordsP P tt (some .own) ops qs K ops.length [] fr M) : drawK P tt ops fr M K :=
 drawE (by rw [ordsP_eq (.inr rfl) hqs] at h; exact h)
end Go.Proofs.YtnjggjhkfncnlaaGreatDoor
namespace Go.Proofs.YtnjggjhkfncnlaaGreatDoor
section
variable {P : Program} {tt : TT} {all : List Oper} {K K' : List AV → Mem → Prop} {fr : List AV} {M : Mem}
end
end Go.Proofs.YtnjggjhkfncnlaaGreatDoor
