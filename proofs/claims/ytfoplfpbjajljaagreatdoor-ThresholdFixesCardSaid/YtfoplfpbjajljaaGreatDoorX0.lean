import Derived.Test.YtfoplfpbjajljaaGreatDoorY1
set_option linter.unusedVariables false
set_option linter.unusedSimpArgs false
namespace Go.Proofs.YtfoplfpbjajljaaGreatDoor
def qtP : Op → Bool
 |.move _ | .fieldAddr _ _ _ | .nilCheck _ | .indexAddr _ _ _ | .build _ _ | .field _ _ _ | .load _ _ | .binOp _ _ _ _ _ | .unOp _ _ _ => true
 |_ => false
def rdP (op : Op) (us : List AV) : Bool := match op with
 |.load _ _ => match us with
  |[.pd _] => true
  |_ => false
 |_ => true
def rsP : Rs → Prop
 |.no => False
 |.val _ => True
 |.need c _ => c
 |.arith c _ _ => c
 |.cmp _ _ => True
def rsV : Rs → AV
 |.no => .top
 |.val u => u
 |.need _ u => u
 |.arith _ k n => .int k (k.wrap n)
 |.cmp p i => .bool (@decide p i)
theorem rsK_pv {r : Rs} {K : AV → Prop} : rsK r K ↔ rsP r ∧ K (rsV r) := by
 cases r with
 |no => simp [rsK, rsP]
 |val u => simp only [rsK, rsP, rsV, forceK_eq, true_and]
 |need c u => simp only [rsK, rsP, rsV, forceK_eq, needK_iff]
 |arith c k n => simp only [rsK, rsP, rsV, arithK_iff]
 |cmp p i => simp only [rsK, rsP, rsV, cmpK_iff, true_and]
def qOkP (all : List Oper) (q : Nat) : Bool := match all[q]? with
 |none => false
 |some o => match o.dst with
  |none => false
  |some d => qtP o.op && o.guard.isNone && (List.range all.length).all fun j => Nat.beq j q || match all[j]? with
   |none => true
   |some x => x.guard.isNone && dneB d x.dst && (!(usesB d (opnds x.op)) || edgeB x q) && (match x.dst with | none => true | some e => !(usesB e (opnds o.op)) || edgeB o j)
def qstP (all : List Oper) (q : Nat) (fr : List AV) (k1 k2 : Prop) : Prop := match all[q]? with
 |none => k2
 |some o => avsK fr (opnds o.op) fun us => match rdP o.op us with
  |true => k1
  |false => k2
def ordsP (P : Program) (tt : TT) (d : Option DMode) (all : List Oper) (qs : List Nat) (K : List AV → Mem → Prop) : Nat → List Nat → List AV → Mem → Prop
 |0, done, fr, M => match rdyK all done with
  |[] => K fr M
  |_ :: _ => False
 |n + 1, done, fr, M => match rdyK all done with
  |[] => K fr M
  |i :: l => match fstQ qs (i :: l) with
   |none => ordN (i :: l) fun j => stO P tt d all j fr M (ordsP P tt d all qs K n (j :: done))
   |some q => qstP all q fr (stO P tt d all q fr M (ordsP P tt d all qs K n (q :: done))) (ordN (i :: l) fun j => stO P tt d all j fr M (ordsP P tt d all qs K n (j :: done)))
section
variable {P : Program} {tt : TT} {dm : Option DMode} {all : List Oper} {K K' : List AV → Mem → Prop} {fr : List AV} {M : Mem}
theorem semK_p {o : Oper} {us : List AV} {K' : AV → Mem → Prop} (hdm : dm = none ∨ dm = some .own) (hq : qtP o.op = true) (hr : rdP o.op us = true) : semK P tt dm o us M K' ↔ rsP (evQ tt o.op us) ∧ K' (rsV (evQ tt o.op us)) M := by
 have hs : semK P tt dm o us M K' = rsK (evQ tt o.op us) fun u => K' u M := by
  unfold semK
  unfold qtP at hq
  split at hq
  all_goals first
   |(rename_i e; rw [e]; rcases hdm with rfl | rfl <;> rfl)
   |exact absurd hq (by decide)
   |(rename_i e; rw [e] at hr ⊢
     unfold rdP at hr
     split at hr
     ·rename_i e2
      cases e2
      split at hr
      ·rcases hdm with rfl | rfl <;> rfl
      ·cases hr
     ·rename_i hh
      exact absurd rfl (hh _ _))
 rw [hs]
 exact rsK_pv
theorem stepK_p {o : Oper} {d : Nat} (hdm : dm = none ∨ dm = some .own) (hg : o.guard = none) (hd : o.dst = some d) (hq : qtP o.op = true) (hr : rdP o.op ((opnds o.op).map (avOf fr)) = true) : stepK P tt dm all o fr M K ↔ rsP (evQ tt o.op ((opnds o.op).map (avOf fr))) ∧ K (fr.set d (rsV (evQ tt o.op ((opnds o.op).map (avOf fr))))) M := by
 unfold stepK guardK
 rw [hg]
 simp only [avsK_eq, putD_eq, hd, setD]
 exact semK_p hdm hq hr
theorem ordsK_p (hdm : dm = none ∨ dm = some .own) {q : Nat} {o : Oper} {d : Nat} (hok : qOkP all q = true) (ho : all[q]? = some o) (hd : o.dst = some d) : ∀ (n : Nat) (done : List Nat) (fr : List AV) (M : Mem), q ∈ rdyK all done → rdP o.op ((opnds o.op).map (avOf fr)) = true →
  (ordsK P tt dm all K (n + 1) done fr M ↔ stO P tt dm all q fr M (ordsK P tt dm all K n (q :: done))) := by
 unfold qOkP at hok
 rw [ho] at hok
 simp only [hd, Bool.and_eq_true, Option.isNone_iff_eq_none] at hok
 obtain ⟨⟨hqt, hg⟩, hall⟩ := hok
 have hpair : ∀ j x, all[j]? = some x → j ≠ q → x.guard = none ∧ dneB d x.dst = true ∧ (usesB d (opnds x.op) = false ∨ edgeB x q = true) ∧ ∀ e, x.dst = some e → usesB e (opnds o.op) = false ∨ edgeB o j = true := fun j x hx hne => by
  have hj : j < all.length := by
   rcases Nat.lt_or_ge j all.length with h | h
   ·exact h
   ·rw [List.getElem?_eq_none h] at hx; cases hx
  have := List.all_eq_true.1 hall j (List.mem_range.2 hj)
  rw [hx] at this
  have hb : Nat.beq j q = false := by cases h : Nat.beq j q with | false => rfl | true => exact absurd (Nat.eq_of_beq_eq_true h) hne
  simp only [hb, Bool.false_or, Bool.and_eq_true, Option.isNone_iff_eq_none, Bool.or_eq_true, Bool.not_eq_true'] at this
  obtain ⟨⟨⟨h1, h2⟩, h3⟩, h4⟩ := this
  refine ⟨h1, h2, h3, fun e he => ?_⟩
  rw [he] at h4
  simpa using h4
 have edge : ∀ {x : Oper} {k : Nat} {done : List Nat}, edgeB x k = true → (∀ e ∈ x.after.toList, Region.binds .any e = true → e.on < all.length ∧ e.on ∈ done) → k ∈ done := fun {x k done} he h => by
  unfold edgeB at he
  obtain ⟨e, hm, hb⟩ := List.any_eq_true.1 he
  rw [Bool.and_eq_true] at hb
  have := (h e hm hb.1).2
  rwa [Nat.eq_of_beq_eq_true hb.2] at this
 intro n
 induction n with
 |zero =>
  intro done fr M hq hu
  have hne : rdyK all done ≠ [] := List.ne_nil_of_mem hq
  rw [ordsK_all hne]
  refine ⟨fun h => h q hq, fun h j hj => ?_⟩
  by_cases e : j = q
  ·subst e; exact h
  ·exfalso
   have hj2 : j ∈ rdyK all (q :: done) := by
    rw [rdyK_mem] at hj ⊢
    obtain ⟨h1, x, hx, h2⟩ := hj
    exact ⟨fun h => by rcases List.mem_cons.1 h with h | h; exact e h; exact h1 h, x, hx, fun e he hb => ⟨(h2 e he hb).1, List.mem_cons_of_mem _ (h2 e he hb).2⟩⟩
   rw [stO_some ho, stepK_p hdm hg hd hqt hu] at h
   have h := h.2
   rw [ordsK] at h
   cases hr : rdyK all (q :: done) with
   |nil => rw [hr] at hj2; cases hj2
   |cons a l => rw [hr] at h; exact h
 |succ m ih =>
  intro done fr M hq hu
  have hne : rdyK all done ≠ [] := List.ne_nil_of_mem hq
  rw [ordsK_all hne]
  refine ⟨fun h => h q hq, fun h j hj => ?_⟩
  by_cases e : j = q
  ·subst e; exact h
  ·have hG := h
   rw [stO_some ho, stepK_p hdm hg hd hqt hu] at hG
   obtain ⟨hP, hG⟩ := hG
   have hj' := rdyK_mem.1 hj
   have hq' := rdyK_mem.1 hq
   obtain ⟨h1, x, hx, h2⟩ := hj'
   obtain ⟨g1, o', ho', g2⟩ := hq'
   rw [ho] at ho'; cases ho'
   obtain ⟨p1, p2, p3, p4⟩ := hpair j x hx e
   have hj2 : j ∈ rdyK all (q :: done) := rdyK_mem.2 ⟨fun h => by rcases List.mem_cons.1 h with h | h; exact e h; exact h1 h, x, hx, fun e he hb => ⟨(h2 e he hb).1, List.mem_cons_of_mem _ (h2 e he hb).2⟩⟩
   have hq2 : q ∈ rdyK all (j :: done) := rdyK_mem.2 ⟨fun h => by rcases List.mem_cons.1 h with h | h; exact e h.symm; exact g1 h, o, ho, fun e he hb => ⟨(g2 e he hb).1, List.mem_cons_of_mem _ (g2 e he hb).2⟩⟩
   have hux : usesB d (opnds x.op) = false := p3.resolve_right fun he => g1 (edge he h2)
   have h3 := (ordsK_all (List.ne_nil_of_mem hj2)).1 hG j hj2
   rw [stO_some hx, stepK_set p1 p2 hux] at h3
   rw [stO_some hx]
   refine Eq.mp (stepK_congr p1 fun w M' => ?_) h3
   rw [ordsK_perm m (j :: q :: done) (q :: j :: done) fun i => by simp only [List.mem_cons]; exact ⟨fun h => by rcases h with h | h | h <;> simp [h], fun h => by rcases h with h | h | h <;> simp [h]⟩]
   have hus : (opnds o.op).map (avOf (setD fr x.dst w)) = (opnds o.op).map (avOf fr) := by
    cases hxd : x.dst with
    |none => rfl
    |some e2 =>
     have : usesB e2 (opnds o.op) = false := (p4 e2 hxd).resolve_right fun he => h1 (edge he g2)
     exact uses_avOf this
   have h4 := ih (j :: done) (setD fr x.dst w) M' hq2 (by rw [hus]; exact hu)
   rw [stO_some ho, stepK_p hdm hg hd hqt (by rw [hus]; exact hu), hus] at h4
   exact propext ⟨fun hh => h4.2 ⟨hP, hh⟩, fun hh => (h4.1 hh).2⟩
theorem ordsP_eq (hdm : dm = none ∨ dm = some .own) {qs : List Nat} (hqs : qs.all (qOkP all) = true) : ∀ (n : Nat) (done : List Nat), ordsP P tt dm all qs K n done = ordsK P tt dm all K n done
 |0, done => by
  funext fr M
  rw [ordsP, ordsK]
  cases rdyK all done <;> rfl
 |n + 1, done => by
  funext fr M
  have e : ∀ j, ordsP P tt dm all qs K n (j :: done) = ordsK P tt dm all K n (j :: done) := fun j => ordsP_eq hdm hqs n _
  rw [ordsP]
  simp only [e]
  cases hr : rdyK all done with
  |nil => rw [ordsK, hr]
  |cons i l =>
   have hk : ordsK P tt dm all K (n + 1) done fr M = ordN (i :: l) fun j => stO P tt dm all j fr M (ordsK P tt dm all K n (j :: done)) := by rw [ordsK, hr]
   simp only
   cases hf : fstQ qs (i :: l) with
   |none => exact hk.symm
   |some q =>
    simp only
    obtain ⟨h1, h2⟩ := fstQ_mem hf
    have hok := List.all_eq_true.1 hqs q h1
    rw [← hk]
    unfold qstP
    cases ho : all[q]? with
    |none => rfl
    |some o =>
     simp only [avsK_eq]
     cases hu : rdP o.op ((opnds o.op).map (avOf fr)) with
     |false => rfl
     |true =>
      simp only
      have hok' := hok
      unfold qOkP at hok'
      rw [ho] at hok'
      cases hd : o.dst with
      |none => simp only [hd] at hok'; cases hok'
      |some d => exact propext (ordsK_p hdm hok ho hd n done fr M (by rw [hr]; exact h2) hu).symm
end
theorem drawP1 {P : Program} {tt : TT} {ops : List Oper} {fr : List AV} {M : Mem} {K : List AV → Mem → Prop} (qs : List Nat) (hqs : qs.all (qOkP ops) = true) (h : ordsP P tt (some .own) ops qs K ops.length [] fr M) : drawK P tt ops fr M K :=
 drawE (by rw [ordsP_eq (.inr rfl) hqs] at h; exact h)
end Go.Proofs.YtfoplfpbjajljaaGreatDoor
namespace Go.Proofs.YtfoplfpbjajljaaGreatDoor
def okL (all : List Oper) (l : Nat) : Bool :=
 (List.range all.length).all fun q => Nat.beq q l || match all[q]? with
  |none => true
  |some o => match o.dst with
   |none => false
   |some d => qtP o.op && o.guard.isNone && pathB all.length all q l && (List.range all.length).all fun j => Nat.beq j q || Nat.beq j l || match all[j]? with
    |none => true
    |some x => dneB d x.dst && (!(usesB d (opnds x.op)) || edgeB x q)
def ordsL (P : Program) (tt : TT) (all : List Oper) (K : List AV → Mem → Prop) : Nat → List Nat → List AV → Mem → Prop
 |0, done, fr, M => match rdyK all done with
  |[] => K fr M
  |_ :: _ => False
 |n + 1, done, fr, M => match rdyK all done with
  |[] => K fr M
  |i :: _ => stO P tt none all i fr M (ordsL P tt all K n (i :: done))
def cloD (all : List Oper) (done : List Nat) : Prop := ∀ j ∈ done, ∀ x, all[j]? = some x → ∀ e ∈ x.after.toList, Region.binds .any e = true → e.on ∈ done
section
variable {P : Program} {tt : TT} {all : List Oper} {K K' : List AV → Mem → Prop} {fr : List AV} {M : Mem}
theorem semK_l {o : Oper} {us : List AV} {K' : AV → Mem → Prop} (hq : qtP o.op = true) : semK P tt none o us M K' ↔ rsP (evM none tt o.op us M) ∧ K' (rsV (evM none tt o.op us M)) M := by
 have hs : semK P tt none o us M K' = rsK (evM none tt o.op us M) fun u => K' u M := by
  unfold semK
  unfold qtP at hq
  split at hq
  all_goals first
   |(rename_i e; rw [e])
   |exact absurd hq (by decide)
 rw [hs]
 exact rsK_pv
def evO (tt : TT) (o : Oper) (fr : List AV) (M : Mem) : Rs := evM none tt o.op ((opnds o.op).map (avOf fr)) M
theorem stepK_l {o : Oper} {d : Nat} (hg : o.guard = none) (hd : o.dst = some d) (hq : qtP o.op = true) : stepK P tt none all o fr M K ↔ rsP (evO tt o fr M) ∧ K (fr.set d (rsV (evO tt o fr M))) M := by
 unfold stepK guardK evO
 rw [hg]
 simp only [avsK_eq, putD_eq, hd, setD]
 exact semK_l hq
theorem evO_set {o : Oper} {d : Nat} {u : AV} (hu : usesB d (opnds o.op) = false) : evO tt o (fr.set d u) M = evO tt o fr M := by
 unfold evO
 rw [uses_avOf hu]
theorem beq_ne {a b : Nat} (h : a ≠ b) : Nat.beq a b = false := by
 cases hb : Nat.beq a b with
 |false => rfl
 |true => exact absurd (Nat.eq_of_beq_eq_true hb) h
theorem okL_at {l : Nat} (hok : okL all l = true) {q : Nat} {o : Oper} (ho : all[q]? = some o) (hql : q ≠ l) : ∃ d, o.dst = some d ∧ qtP o.op = true ∧ o.guard = none ∧ pathB all.length all q l = true ∧
  ∀ j x, all[j]? = some x → j ≠ q → j ≠ l → dneB d x.dst = true ∧ (usesB d (opnds x.op) = false ∨ edgeB x q = true) := by
 have lt : ∀ {j : Nat} {x : Oper}, all[j]? = some x → j < all.length := fun {j x} h => by
  rcases Nat.lt_or_ge j all.length with h2 | h2
  ·exact h2
  ·rw [List.getElem?_eq_none h2] at h; cases h
 have h1 := List.all_eq_true.1 hok q (List.mem_range.2 (lt ho))
 rw [beq_ne hql, Bool.false_or, ho] at h1
 dsimp only at h1
 cases hd : o.dst with
 |none => rw [hd] at h1; cases h1
 |some d =>
  rw [hd] at h1
  simp only [Bool.and_eq_true, Option.isNone_iff_eq_none] at h1
  obtain ⟨⟨⟨h2, h3⟩, h4⟩, h5⟩ := h1
  refine ⟨d, rfl, h2, h3, h4, fun j x hx hjq hjl => ?_⟩
  have h6 := List.all_eq_true.1 h5 j (List.mem_range.2 (lt hx))
  rw [beq_ne hjq, beq_ne hjl, hx] at h6
  simp only [Bool.false_or, Bool.and_eq_true, Bool.or_eq_true, Bool.not_eq_true'] at h6
  exact h6
theorem path_done {done : List Nat} (hc : cloD all done) {i : Nat} : ∀ (n j : Nat), pathB n all i j = true → (∀ x, all[j]? = some x → ∀ e ∈ x.after.toList, Region.binds .any e = true → e.on ∈ done) → i ∈ done
 |0, j, h, _ => by cases h
 |n + 1, j, h, hj => by
  rw [pathB] at h
  cases hx : all[j]? with
  |none => rw [hx] at h; cases h
  |some x =>
   rw [hx] at h
   dsimp only at h
   obtain ⟨e, hm, hb⟩ := List.any_eq_true.1 h
   rw [Bool.and_eq_true, Bool.or_eq_true] at hb
   have he := hj x hx e hm hb.1
   rcases hb.2 with h1 | h1
   ·rw [← of_decide_eq_true h1]; exact he
   ·exact path_done hc n e.on h1 fun y hy => hc e.on he y hy
theorem cloD_cons {done : List Nat} (hc : cloD all done) {j : Nat} (hj : j ∈ rdyK all done) : cloD all (j :: done) := by
 intro k hk x hx e he hb
 rcases List.mem_cons.1 hk with rfl | hk
 ·obtain ⟨_, o, ho, h⟩ := rdyK_mem.1 hj
  rw [hx] at ho; cases ho
  exact List.mem_cons_of_mem _ (h e he hb).2
 ·exact List.mem_cons_of_mem _ (hc k hk x hx e he hb)
theorem rdyK_up {done : List Nat} {j q : Nat} (hj : j ∈ rdyK all done) (hne : j ≠ q) : j ∈ rdyK all (q :: done) := by
 obtain ⟨h1, x, hx, h2⟩ := rdyK_mem.1 hj
 exact rdyK_mem.2 ⟨fun h => by rcases List.mem_cons.1 h with h | h; exact hne h; exact h1 h, x, hx, fun e he hb => ⟨(h2 e he hb).1, List.mem_cons_of_mem _ (h2 e he hb).2⟩⟩
theorem last_late {l : Nat} (hok : okL all l = true) {done : List Nat} (hc : cloD all done) (hl : l ∈ rdyK all done) {j : Nat} (hj : j ∈ rdyK all done) : j = l := by
 refine Classical.byContradiction fun hne => ?_
 obtain ⟨h1, x, hx, _⟩ := rdyK_mem.1 hj
 obtain ⟨_, o, ho, h2⟩ := rdyK_mem.1 hl
 obtain ⟨d, _, _, _, hp, _⟩ := okL_at hok hx hne
 exact h1 (path_done hc _ _ hp fun y hy e he hb => by rw [ho] at hy; cases hy; exact (h2 e he hb).2)
theorem ordsK_l {l : Nat} (hok : okL all l = true) {q : Nat} (hql : q ≠ l) : ∀ (n : Nat) (done : List Nat) (fr : List AV) (M : Mem), cloD all done → q ∈ rdyK all done →
  (ordsK P tt none all K (n + 1) done fr M ↔ stO P tt none all q fr M (ordsK P tt none all K n (q :: done))) := by
 intro n
 induction n with
 |zero =>
  intro done fr M hc hq
  obtain ⟨_, o, ho, _⟩ := rdyK_mem.1 hq
  obtain ⟨d, hd, hqt, hg, hp, hall⟩ := okL_at hok ho hql
  rw [ordsK_all (List.ne_nil_of_mem hq)]
  refine ⟨fun h => h q hq, fun h j hj => ?_⟩
  by_cases e : j = q
  ·subst e; exact h
  ·exfalso
   have hj2 := rdyK_up hj e
   rw [stO_some ho, stepK_l hg hd hqt] at h
   have h := h.2
   rw [ordsK] at h
   cases hr : rdyK all (q :: done) with
   |nil => rw [hr] at hj2; cases hj2
   |cons a r => rw [hr] at h; exact h
 |succ m ih =>
  intro done fr M hc hq
  obtain ⟨g1, o, ho, g2⟩ := rdyK_mem.1 hq
  obtain ⟨d, hd, hqt, hg, hp, hall⟩ := okL_at hok ho hql
  rw [ordsK_all (List.ne_nil_of_mem hq)]
  refine ⟨fun h => h q hq, fun h j hj => ?_⟩
  by_cases e : j = q
  ·subst e; exact h
  ·have hjl : j ≠ l := fun hl => by subst hl; exact e (last_late hok hc hj hq).symm
   obtain ⟨h1, x, hx, h2⟩ := rdyK_mem.1 hj
   obtain ⟨dx, hdx, hqtx, hgx, _, hallx⟩ := okL_at hok hx hjl
   have edge : ∀ {x : Oper} {k : Nat}, edgeB x k = true → (∀ e ∈ x.after.toList, Region.binds .any e = true → e.on < all.length ∧ e.on ∈ done) → k ∈ done := fun {x k} he h => by
    unfold edgeB at he
    obtain ⟨e, hm, hb⟩ := List.any_eq_true.1 he
    rw [Bool.and_eq_true] at hb
    have := (h e hm hb.1).2
    rwa [Nat.eq_of_beq_eq_true hb.2] at this
   obtain ⟨p2, p3⟩ := hall j x hx e hjl
   obtain ⟨_, p4⟩ := hallx q o ho (fun h => e h.symm) hql
   have hux : usesB d (opnds x.op) = false := p3.resolve_right fun he => g1 (edge he h2)
   have huo : usesB dx (opnds o.op) = false := p4.resolve_right fun he => h1 (edge he g2)
   have hdd : d ≠ dx := by
    rw [hdx] at p2
    intro h3
    subst h3
    simp [dneB] at p2
   have hj2 := rdyK_up hj e
   have hq2 := rdyK_up hq (fun h => e h.symm)
   rw [stO_some ho, stepK_l hg hd hqt] at h
   obtain ⟨hP, hG⟩ := h
   have h3 := (ordsK_all (List.ne_nil_of_mem hj2)).1 hG j hj2
   rw [stO_some hx, stepK_l hgx hdx hqtx, evO_set hux] at h3
   rw [stO_some hx, stepK_l hgx hdx hqtx]
   refine ⟨h3.1, (ih (j :: done) _ _ (cloD_cons hc hj) hq2).2 ?_⟩
   rw [stO_some ho, stepK_l hg hd hqt, evO_set huo]
   refine ⟨hP, ?_⟩
   have h4 := h3.2
   rw [ordsK_perm m (j :: q :: done) (q :: j :: done) fun i => by simp only [List.mem_cons]; exact ⟨fun h => by rcases h with h | h | h <;> simp [h], fun h => by rcases h with h | h | h <;> simp [h]⟩, List.set_comm _ _ hdd] at h4
   exact h4
theorem ordsL_eq {l : Nat} (hok : okL all l = true) : ∀ (n : Nat) (done : List Nat), cloD all done → ∀ fr M, ordsL P tt all K n done fr M ↔ ordsK P tt none all K n done fr M
 |0, done, _, fr, M => by
  rw [ordsL, ordsK]
  cases rdyK all done <;> exact Iff.rfl
 |n + 1, done, hc, fr, M => by
  cases hr : rdyK all done with
  |nil =>
   rw [ordsL, ordsK, hr]
  |cons i r =>
   have hi : i ∈ rdyK all done := by rw [hr]; exact List.mem_cons_self
   have e : ordsL P tt all K n (i :: done) = ordsK P tt none all K n (i :: done) := by
    funext fr M
    exact propext (ordsL_eq hok n _ (cloD_cons hc hi) fr M)
   have h0 : ordsL P tt all K (n + 1) done fr M = stO P tt none all i fr M (ordsK P tt none all K n (i :: done)) := by
    rw [ordsL, hr]
    dsimp only
    rw [e]
   rw [h0]
   by_cases hil : i = l
   ·subst hil
    rw [ordsK_all (List.ne_nil_of_mem hi)]
    refine ⟨fun h j hj => ?_, fun h => h i hi⟩
    have := last_late hok hc hi hj
    subst this
    exact h
   ·exact (ordsK_l hok hil n done fr M hc hi).symm
end
structure StopL (K : List AV → Mem → Prop) (fr : List AV) (M : Mem) : Prop where
 out : K fr M
theorem stopL_mem {K : List AV → Mem → Prop} {fr : List AV} {M M' : Mem} (e : M = M') (h : K fr M') : StopL K fr M := ⟨by rw [e]; exact h⟩
theorem drawL {P : Program} {tt : TT} {ops : List Oper} {fr : List AV} {M : Mem} {K : List AV → Mem → Prop} (l : Nat) (hok : okL ops l = true) (h : ordsL P tt ops (StopL K) ops.length [] fr M) : drawK P tt ops fr M K := by
 have e : StopL K = K := by
  funext fr M
  exact propext ⟨fun h => h.out, fun h => ⟨h⟩⟩
 rw [e] at h
 exact drawZ ((ordsL_eq hok _ _ (fun j hj => by cases hj) _ _).1 h)
end Go.Proofs.YtfoplfpbjajljaaGreatDoor
