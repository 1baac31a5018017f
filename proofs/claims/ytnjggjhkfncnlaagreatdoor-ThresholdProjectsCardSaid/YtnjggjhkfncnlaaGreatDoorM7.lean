import Derived.Test.YtnjggjhkfncnlaaGreatDoorM6
set_option linter.unusedVariables false
set_option linter.unusedSimpArgs false
namespace Go.Proofs.YtnjggjhkfncnlaaGreatDoor
set_option maxRecDepth 100000
set_option maxHeartbeats 16000000
theorem toNat_cast {i : Int} (h : 0 ≤ i) : ((i.toNat : Nat) : Int) = i:=by omega
theorem enabledV (p : Pro) (s : Siz) (c : Cfg) (x : Stp) (f : Bool) (h : Rdy p s c) : PSpec Tryz.prog 123 [.agg (encV p s c), .agg (encX x), .bool f] (fun u=>u = .bool (decide (enB p s c x f))):=by
 have hle:=bigP_le h.big
 have hc:=wide_le h.wide
 have f1 : ((List.range c.states.length).map (nbF p.topology c.shape c.states.length)).length = c.states.length:=by simp
 have f2 : ((List.range c.states.length).map (nbS p.topology c.shape c.states.length)).length = c.states.length:=by simp
 have f3 : ((List.range c.states.length).map (nbP p.topology c.shape c.states.length)).length = c.states.length:=by simp
 refine PSpec.intro tt_ok mx_ok Tryz.func123 rfl (by decide) ?_; (conv=>whnf)
 refine boxP rfl ?_
 conv=>whnf
 refine boxP rfl ?_
 conv=>whnf
 refine cmpI ?_ ?_ <;> (intro h1; conv=>whnf)
 ·exact ⟨dec_f (fun hh=>by have:=hh.1; omega), rfl⟩
 refine cmpI ?_ ?_ <;> (intro h2; conv=>whnf)
 ·exact ⟨dec_f (fun hh=>by have:=hh.1; omega), rfl⟩
 refine cmpI ?_ ?_ <;> (intro h3; conv=>whnf)
 ·exact ⟨dec_f (fun hh=>by have:=hh.1; omega), rfl⟩
 refine cmpI ?_ ?_ <;> (intro h4; conv=>whnf)
 ·exact ⟨dec_f (fun hh=>by have:=hh.1; omega), rfl⟩
 have yes : enC p s c (p.rules.getD x.rule.toNat rul0) x f → enB p s c x f:=fun hh=>⟨by omega, hh⟩
 have no : ¬ enC p s c (p.rules.getD x.rule.toNat rul0) x f → ¬ enB p s c x f:=fun hn hh=>hn hh.2
 have hR:=valid_rule h.val (i:=x.rule.toNat) (by omega)
 have hB:=bigP_rule h.big (j:=x.rule.toNat) (by omega)
 have hbr:=bigR_le hB
 refine nI ?_
 generalize p.rules.getD x.rule.toNat rul0 = r at yes no hR hB hbr
 have hrd:=hR.read
 have hfit:=hR.fit
 unfold fitB at hfit
 conv=>whnf
 refine dI ?_
 conv=>whnf
 refine nI ?_
 conv=>whnf
 refine cmpI ?_ ?_ <;> (intro h5; conv=>whnf)
 ·exact ⟨dec_f (no (fun hh=>h5 hh.1)), rfl⟩
 have h5' : c.states.getD x.process.toNat 0 = r.src:=by
  by_cases e : c.states.getD x.process.toNat 0 = r.src
  ·exact e
  ·exact absurd e h5
 by_cases h6 : r.read = -1 ∨ c.value = r.read
 case neg =>
  repeat' ((first|refine nI ?_|refine aI ?_|refine tI ?_|refine fI ?_|fail);conv=>whnf)
  exact ⟨dec_f (no (fun hh=>h6 hh.2.1)), rfl⟩
 have yes2 : kinB p s c r x f → enB p s c x f:=fun hh=>yes ⟨h5', h6, hh⟩
 have no2 : ¬ kinB p s c r x f → ¬ enB p s c x f:=fun hn=>no (fun hh=>hn hh.2.2)
 have hkb : kinB p s c r x f = (if r.kind = 2 ∨ r.kind = 5 then prtB c r x ∧ (r.kind = 2 ∨ pasB p c r x.process.toNat x.partner)
  else x.partner = -1 ∧ (if r.kind = 1 then grdB p s c r f ∧ othB c r x.process else if r.kind = 3 then True else nbrB p c r x.process.toNat)):=rfl
 rw [hkb] at yes2 no2
 have hcase : (r.read = -1) ∨ (0 ≤ r.read ∧ c.value = r.read):=by omega
 rcases hcase with h7 | ⟨h7, h8⟩
 all_goals
  repeat' ((first|refine nI ?_|refine aI ?_|refine tI ?_|refine fI ?_|fail);conv=>whnf)
  by_cases k25 : r.kind = 2 ∨ r.kind = 5
  ·rw [if_pos k25] at yes2 no2
   by_cases hpr : prtB c r x
   case neg =>
    have hpr' : ¬ (0 ≤ x.partner ∧ x.partner < c.states.length ∧ x.partner ≠ x.process ∧ c.states.getD x.partner.toNat 0 = r.pfrom):=hpr
    rcases k25 with k2 | k5
    all_goals
     repeat' ((first|refine nI ?_|refine aI ?_|refine tI ?_|refine fI ?_|fail);conv=>whnf)
     refine dI ?_
     conv=>whnf
     refine cmpI ?_ ?_ <;> (intro g1; conv=>whnf)
     ·exact ⟨dec_f (no2 (fun hh=>hpr hh.1)), rfl⟩
     refine cmpI ?_ ?_ <;> (intro g2; conv=>whnf)
     ·exact ⟨dec_f (no2 (fun hh=>hpr hh.1)), rfl⟩
     refine cmpI ?_ ?_ <;> (intro g3; conv=>whnf)
     ·exact ⟨dec_f (no2 (fun hh=>hpr hh.1)), rfl⟩
     refine nI ?_
     conv=>whnf
     refine tI ?_
     conv=>whnf
     exact ⟨dec_f (no2 (fun hh=>hpr hh.1)), rfl⟩
   obtain ⟨g1, g2, g3, g4⟩:=id hpr
   by_cases k2 : r.kind = 2
   ·repeat' ((first|refine nI ?_|refine aI ?_|refine tI ?_|refine fI ?_|fail);conv=>whnf)
    refine dI ?_
    conv=>whnf
    repeat' ((first|refine nI ?_|refine aI ?_|refine tI ?_|refine fI ?_|fail);conv=>whnf)
    exact ⟨dec_t (yes2 ⟨hpr, .inl k2⟩), rfl⟩
   ·repeat' ((first|refine nI ?_|refine aI ?_|refine tI ?_|refine fI ?_|fail);conv=>whnf)
    refine dI ?_
    conv=>whnf
    repeat' ((first|refine nI ?_|refine aI ?_|refine tI ?_|refine fI ?_|fail);conv=>whnf)
    have hp:=passesV p s c r x.process.toNat x.partner (by omega)
    rw [toNat_cast (by omega)] at hp
    refine dC (hp) (fun _=>?_) (fun _=>?_) <;> (conv=>whnf)
    ·rename_i h9; exact ⟨dec_t (yes2 ⟨hpr, .inr h9⟩), rfl⟩
    ·rename_i h9; exact ⟨dec_f (no2 (fun hh=>hh.2.elim k2 h9)), rfl⟩
  rw [if_neg k25] at yes2 no2
  by_cases hpa : x.partner = -1
  case neg =>
   repeat' ((first|refine nI ?_|refine aI ?_|refine tI ?_|refine fI ?_|fail);conv=>whnf)
   exact ⟨dec_f (no2 (fun hh=>hpa hh.1)), rfl⟩
  by_cases k1 : r.kind = 1
  ·rw [if_pos k1] at yes2 no2
   repeat' ((first|refine nI ?_|refine aI ?_|refine tI ?_|refine fI ?_|fail);conv=>whnf)
   refine dC (guardsV p s c r f h hB (hR.guards k1)) (fun _=>?_) (fun _=>?_) <;> (conv=>whnf)
   case refine_2=>rename_i h9; exact ⟨dec_f (no2 (fun hh=>h9 hh.2.1)), rfl⟩
   rename_i h9
   refine dC (othersV p s c r x.process h.wide hB) (fun _=>?_) (fun _=>?_) <;> (conv=>whnf)
   ·rename_i h10; exact ⟨dec_t (yes2 ⟨hpa, h9, h10⟩), rfl⟩
   ·rename_i h10; exact ⟨dec_f (no2 (fun hh=>h10 hh.2.2)), rfl⟩
  rw [if_neg k1] at yes2 no2
  by_cases k3 : r.kind = 3
  ·rw [if_pos k3] at yes2 no2
   repeat' ((first|refine nI ?_|refine aI ?_|refine tI ?_|refine fI ?_|fail);conv=>whnf)
   exact ⟨dec_t (yes2 ⟨hpa, trivial⟩), rfl⟩
  rw [if_neg k3] at yes2 no2
  have k4 : r.kind = 4:=by omega
  have hlt:=nb_lt (t:=p.topology) (l:=c.shape) (n:=c.states.length) (i:=x.process.toNat) (by omega)
  have hlp:=nbP_b (t:=p.topology) (l:=c.shape) (n:=c.states.length) (i:=x.process.toNat) (by omega)
  repeat' ((first|refine nI ?_|refine aI ?_|refine tI ?_|refine fI ?_|fail);conv=>whnf)
  refine dI ?_
  conv=>whnf
  have hpo:=positionV p s c r x.process.toNat h hR k4 (by omega)
  rw [toNat_cast (by omega)] at hpo
  refine dD (hpo) (fun _=>?_) (fun _=>?_) <;> (conv=>whnf)
  case refine_2=>rename_i h9; exact ⟨dec_f (no2 (fun hh=>h9 hh.2.1)), rfl⟩
  rename_i h9
  refine nI ?_
  rw [getD_map_range _ _ _ (by omega)]
  conv=>whnf
  refine dD (nearV p s c r.left _ (by omega) (by omega) h.wide) (fun _=>?_) (fun _=>?_) <;> (conv=>whnf)
  case refine_2=>rename_i h10; exact ⟨dec_f (no2 (fun hh=>h10 hh.2.2.1)), rfl⟩
  rename_i h10
  refine nI ?_
  rw [getD_map_range _ _ _ (by omega)]
  conv=>whnf
  refine dD (nearV p s c r.right _ (by omega) (by omega) h.wide) (fun _=>?_) (fun _=>?_) <;> (conv=>whnf)
  case refine_2=>rename_i h11; exact ⟨dec_f (no2 (fun hh=>h11 hh.2.2.2.1)), rfl⟩
  rename_i h11
  refine nI ?_
  rw [getD_map_range _ _ _ (by omega)]
  conv=>whnf
  refine dD (nearV p s c r.parent _ (by omega) (by omega) h.wide) (fun _=>?_) (fun _=>?_) <;> (conv=>whnf)
  ·rename_i h12; exact ⟨dec_t (yes2 ⟨hpa, h9, h10, h11, h12⟩), rfl⟩
  ·rename_i h12; exact ⟨dec_f (no2 (fun hh=>h12 hh.2.2.2.2)), rfl⟩
theorem localR (p : Pro) (s : Siz) (c : Cfg) (r : Rul) (i : Int) (f : Bool) (h : Rdy p s c) (hr : ¬ bigR r) (hg : guardsE p.messages.length r.guards = 0) : PSpec Tryz.prog 220 [.agg (encP p), .agg (encZ s), .agg (encC c), .agg (encR r), .int .i64 i, .bool f] (fun u=>u = .bool (decide (grdB p s c r f ∧ othB c r i))):=by
 have hle:=bigP_le h.big
 have hbr:=bigR_le hr
 have hc:=wide_le h.wide
 have hgs:=guardsE_ok hg
 have hsn:=h.vc.snl
 have hfa:=h.vc.fal
 have hz:=h.siz
 unfold inZ at hz
 refine PSpec.intro tt_ok mx_ok Tryz.func220 rfl (by decide) ?_; (conv=>whnf)
 refine boxP rfl ?_
 conv=>whnf
 refine boxP rfl ?_
 conv=>whnf
 refine boxP rfl ?_
 conv=>whnf
 refine boxP rfl ?_
 conv=>whnf
 refine WPc.loopF tt_ok mx_ok (fun k : Nat=>k ≤ r.guards.length ∧ ∀ j, j < k → grdA p s c f (r.guards.getD j thr0)) (fun k=>[(13, .int .i64 (k : Int))]) (fun _=>[]) (fun k=>r.guards.length - k) 0 ⟨by omega, fun j hj=>by omega⟩ ?_; conv=>whnf
 refine ⟨sI, ?_⟩
 rintro k ⟨hk, ha⟩
 conv=>whnf
 refine cmpI ?_ ?_ <;> (intro h1; conv=>whnf)
 ·obtain ⟨g1, g2, g3⟩:=hgs k (by omega)
  have nok : ¬ grdA p s c f (r.guards.getD k thr0) → ¬ (grdB p s c r f ∧ othB c r i):=fun hn hb=>hn (hb.1 k (by omega))
  have next : grdA p s c f (r.guards.getD k thr0) → ∀ j, j < k + 1 → grdA p s c f (r.guards.getD j thr0):=fun hn j hj=>by
   by_cases e : j = k
   ·subst e; exact hn
   ·exact ha j (by omega)
  refine nI ?_
  rw [tN]
  generalize r.guards.getD k thr0 = g at g1 g2 g3 nok next
  have hb:=cntM_b (p:=p) (s:=s) (c:=c) (m:=g.message) f h.sent.1 h.sent.2 (by omega) (by omega)
  have hm:=mul_c g2 hb
  conv=>whnf
  (refine oP (evaluateR g.bound s g3 h.siz) ?_; conv=>whnf)
  refine dI ?_
  conv=>whnf
  (refine oC (heardR p s c g.message f h.sent.1 h.sent.2 (by omega) (by omega)) ?_; conv=>whnf)
  repeat' ((first|refine nI ?_|refine aI ?_|refine tI ?_|refine fI ?_|fail);conv=>whnf)
  refine cmpI ?_ ?_ <;> (intro h2; conv=>whnf)
  ·exact ⟨dec_f (nok (by unfold grdA; omega)), rfl⟩
  ·repeat' ((first|refine nI ?_|refine aI ?_|refine tI ?_|refine fI ?_|fail);conv=>whnf)
   exact ⟨k + 1, sI, ⟨by omega, next (by unfold grdA; omega)⟩, by dsimp only; omega⟩
 have hgrd : grdB p s c r f:=fun j hj=>ha j (by omega)
 refine cmpD ?_
 conv=>whnf
 refine WPc.loopF tt_ok mx_ok (fun x : Nat × Bool=>x.1 ≤ c.states.length ∧ (x.2 = true ↔ exK c r.some_ i x.1) ∧ faK c r.forall_ i x.1) (fun x=>[(18, .int .i64 (x.1 : Int)), (17, .bool x.2)]) (fun _=>[]) (fun x=>c.states.length - x.1) (0, decide ((r.some_.length : Int) = 0)) ⟨Nat.zero_le _, by rw [exK_zero, decide_eq_true_iff]; omega, faK_zero⟩ ?_; conv=>whnf
 refine ⟨sI, ?_⟩
 rintro ⟨k, e⟩ ⟨hk, he, hf⟩
 dsimp only at hk he hf ⊢
 cases e
 ·conv=>whnf
  refine cmpI ?_ ?_ <;> (intro h1; conv=>whnf)
  case refine_2=>exact ⟨dec_f (fun hh=>nIff he (by rw [show k = c.states.length by omega]; exact hh.2.1)), rfl⟩
  refine cmpI ?_ ?_ <;> (intro h2; conv=>whnf)
  ·repeat' ((first|refine nI ?_|refine aI ?_|refine tI ?_|refine fI ?_|fail);conv=>whnf)
   exact ⟨(k + 1, _), sI, ⟨by dsimp only; omega, he.trans (exK_skip h2).symm, (faK_skip h2).2 hf⟩, by dsimp only; omega⟩
  refine dI ?_
  conv=>whnf
  refine nI ?_
  rw [tN]
  conv=>whnf
  refine dD (hasR r.some_ _ (by omega)) (fun _=>?_) (fun _=>?_) <;> (conv=>whnf)
  ·rename_i hin
   have hE:=iffT (exK_new h2 hin)
   refine dI ?_
   conv=>whnf
   refine cmpI ?_ ?_ <;> (intro h3; conv=>whnf)
   ·refine nI ?_
    rw [tN]
    conv=>whnf
    refine dD (hasR r.forall_ _ (by omega)) (fun _=>?_) (fun _=>?_) <;> (conv=>whnf)
    ·rename_i h4
     repeat' ((first|refine nI ?_|refine aI ?_|refine tI ?_|refine fI ?_|fail);conv=>whnf)
     exact ⟨(k + 1, _), sI, ⟨by dsimp only; omega, hE, faK_new hf h4⟩, by dsimp only; omega⟩
    ·rename_i h4
     exact ⟨dec_f (fun hh=>hh.2.2.elim (by omega) (fun hq=>h4 (hq k (by omega) h2))), rfl⟩
   ·repeat' ((first|refine nI ?_|refine aI ?_|refine tI ?_|refine fI ?_|fail);conv=>whnf)
    exact ⟨(k + 1, _), sI, ⟨by dsimp only; omega, hE, faK_nil (by omega)⟩, by dsimp only; omega⟩
  ·rename_i hin
   have hE:=iffF (exK_no (nIff he) hin)
   refine dI ?_
   conv=>whnf
   refine cmpI ?_ ?_ <;> (intro h3; conv=>whnf)
   ·refine nI ?_
    rw [tN]
    conv=>whnf
    refine dD (hasR r.forall_ _ (by omega)) (fun _=>?_) (fun _=>?_) <;> (conv=>whnf)
    ·rename_i h4
     repeat' ((first|refine nI ?_|refine aI ?_|refine tI ?_|refine fI ?_|fail);conv=>whnf)
     exact ⟨(k + 1, _), sI, ⟨by dsimp only; omega, hE, faK_new hf h4⟩, by dsimp only; omega⟩
    ·rename_i h4
     exact ⟨dec_f (fun hh=>hh.2.2.elim (by omega) (fun hq=>h4 (hq k (by omega) h2))), rfl⟩
   ·repeat' ((first|refine nI ?_|refine aI ?_|refine tI ?_|refine fI ?_|fail);conv=>whnf)
    exact ⟨(k + 1, _), sI, ⟨by dsimp only; omega, hE, faK_nil (by omega)⟩, by dsimp only; omega⟩
 ·conv=>whnf
  refine cmpI ?_ ?_ <;> (intro h1; conv=>whnf)
  case refine_2=>exact ⟨dec_t ⟨hgrd, by have:=he.1 rfl; rwa [show k = c.states.length by omega] at this, by rwa [show k = c.states.length by omega] at hf⟩, rfl⟩
  refine cmpI ?_ ?_ <;> (intro h2; conv=>whnf)
  ·repeat' ((first|refine nI ?_|refine aI ?_|refine tI ?_|refine fI ?_|fail);conv=>whnf)
   exact ⟨(k + 1, _), sI, ⟨by dsimp only; omega, he.trans (exK_skip h2).symm, (faK_skip h2).2 hf⟩, by dsimp only; omega⟩
  refine dI ?_
  conv=>whnf
  ·have hE:=iffT (exK_old (i:=i) (he.1 rfl))
   refine dI ?_
   conv=>whnf
   refine cmpI ?_ ?_ <;> (intro h3; conv=>whnf)
   ·refine nI ?_
    rw [tN]
    conv=>whnf
    refine dD (hasR r.forall_ _ (by omega)) (fun _=>?_) (fun _=>?_) <;> (conv=>whnf)
    ·rename_i h4
     repeat' ((first|refine nI ?_|refine aI ?_|refine tI ?_|refine fI ?_|fail);conv=>whnf)
     exact ⟨(k + 1, _), sI, ⟨by dsimp only; omega, hE, faK_new hf h4⟩, by dsimp only; omega⟩
    ·rename_i h4
     exact ⟨dec_f (fun hh=>hh.2.2.elim (by omega) (fun hq=>h4 (hq k (by omega) h2))), rfl⟩
   ·repeat' ((first|refine nI ?_|refine aI ?_|refine tI ?_|refine fI ?_|fail);conv=>whnf)
    exact ⟨(k + 1, _), sI, ⟨by dsimp only; omega, hE, faK_nil (by omega)⟩, by dsimp only; omega⟩
theorem enabledR (p : Pro) (s : Siz) (c : Cfg) (x : Stp) (f : Bool) (h : Rdy p s c) : PSpec Tryz.prog 190 [.agg (encP p), .agg (encZ s), .agg (encC c), .agg (encX x), .bool f] (fun u=>u = .bool (decide (enB p s c x f))):=by
 have hle:=bigP_le h.big
 have hc:=wide_le h.wide
 refine PSpec.intro tt_ok mx_ok Tryz.func190 rfl (by decide) ?_; (conv=>whnf)
 refine boxP rfl ?_
 conv=>whnf
 refine boxP rfl ?_
 conv=>whnf
 refine boxP rfl ?_
 conv=>whnf
 refine boxP rfl ?_
 conv=>whnf
 repeat' ((first|refine nI ?_|refine aI ?_|refine tI ?_|refine fI ?_|fail);conv=>whnf)
 refine dC (withinT _ _ _) (fun _=>?_) (fun _=>?_) <;> (conv=>whnf)
 case refine_2=>rename_i hh; exact ⟨dec_f (fun hn=>hh (by have:=hn.1; omega)), rfl⟩
 rename_i h1
 repeat' ((first|refine nI ?_|refine aI ?_|refine tI ?_|refine fI ?_|fail);conv=>whnf)
 refine dC (withinT _ _ _) (fun _=>?_) (fun _=>?_) <;> (conv=>whnf)
 case refine_2=>rename_i hh; exact ⟨dec_f (fun hn=>hh (by have:=hn.1; omega)), rfl⟩
 rename_i h3
 have yes : enC p s c (p.rules.getD x.rule.toNat rul0) x f → enB p s c x f:=fun hh=>⟨by omega, hh⟩
 have no : ¬ enC p s c (p.rules.getD x.rule.toNat rul0) x f → ¬ enB p s c x f:=fun hn hh=>hn hh.2
 have hR:=valid_rule h.val (i:=x.rule.toNat) (by omega)
 have hB:=bigP_rule h.big (j:=x.rule.toNat) (by omega)
 have hbr:=bigR_le hB
 refine dP ?_
 conv=>whnf
 refine nI ?_
 generalize p.rules.getD x.rule.toNat rul0 = r at yes no hR hB hbr
 have hrd:=hR.read
 have hfit:=hR.fit
 unfold fitB at hfit
 conv=>whnf
 refine dI ?_
 conv=>whnf
 refine nI ?_
 conv=>whnf
 refine cmpI ?_ ?_ <;> (intro h5; conv=>whnf)
 ·exact ⟨dec_f (no (fun hh=>h5 hh.1)), rfl⟩
 have h5' : c.states.getD x.process.toNat 0 = r.src:=by
  by_cases e : c.states.getD x.process.toNat 0 = r.src
  ·exact e
  ·exact absurd e h5
 by_cases h6 : r.read = -1 ∨ c.value = r.read
 case neg =>
  repeat' ((first|refine nI ?_|refine aI ?_|refine tI ?_|refine fI ?_|fail);conv=>whnf)
  exact ⟨dec_f (no (fun hh=>h6 hh.2.1)), rfl⟩
 have yes2 : kinB p s c r x f → enB p s c x f:=fun hh=>yes ⟨h5', h6, hh⟩
 have no2 : ¬ kinB p s c r x f → ¬ enB p s c x f:=fun hn=>no (fun hh=>hn hh.2.2)
 have hkb : kinB p s c r x f = (if r.kind = 2 ∨ r.kind = 5 then prtB c r x ∧ (r.kind = 2 ∨ pasB p c r x.process.toNat x.partner)
  else x.partner = -1 ∧ (if r.kind = 1 then grdB p s c r f ∧ othB c r x.process else if r.kind = 3 then True else nbrB p c r x.process.toNat)):=rfl
 rw [hkb] at yes2 no2
 have hlt:=nb_lt (t:=p.topology) (l:=c.shape) (n:=c.states.length) (i:=x.process.toNat) (by omega)
 have hlp:=nbP_b (t:=p.topology) (l:=c.shape) (n:=c.states.length) (i:=x.process.toNat) (by omega)
 have hN : PSpec Tryz.prog 219 [.int .i64 p.topology, .sl 0 encI c.shape, .int .i64 (c.states.length : Int), .int .i64 x.process] (fun u=>u = .tup [.int .i64 (nbF p.topology c.shape c.states.length x.process.toNat), .int .i64 (nbS p.topology c.shape c.states.length x.process.toNat), .int .i64 (nbP p.topology c.shape c.states.length x.process.toNat)]):=by
  have hN:=neighborsR p.topology c.shape c.states.length x.process.toNat (by omega) (by omega) (by omega)
  rw [nbr_link (by omega), toNat_cast (by omega)] at hN
  exact hN
 have eF : nF p c x.process.toNat = nbF p.topology c.shape c.states.length x.process.toNat:=rfl
 have eS : nS p c x.process.toNat = nbS p.topology c.shape c.states.length x.process.toNat:=rfl
 have eP : nP p c x.process.toNat = nbP p.topology c.shape c.states.length x.process.toNat:=rfl
 have hcase : (r.read = -1) ∨ (r.read ≠ -1 ∧ c.value = r.read):=by omega
 rcases hcase with h7 | ⟨h7, h8⟩
 all_goals
  repeat' ((first|refine nI ?_|refine aI ?_|refine tI ?_|refine fI ?_|fail);conv=>whnf)
  (refine oP (hN) ?_; conv=>whnf)
  by_cases k25 : r.kind = 2 ∨ r.kind = 5
  ·rw [if_pos k25] at yes2 no2
   have hpas : pasB p c r x.process.toNat x.partner = (if r.direction = 1 then nS p c x.process.toNat = x.partner else if r.direction = 2 then nF p c x.process.toNat = x.partner else if r.direction = 3 then (nF p c x.process.toNat = x.partner ∨ nS p c x.process.toNat = x.partner) else nP p c x.process.toNat = x.partner):=rfl
   by_cases k2 : r.kind = 2
   all_goals
    repeat' ((first|refine nI ?_|refine aI ?_|refine tI ?_|refine fI ?_|fail);conv=>whnf)
    refine dI ?_
    conv=>whnf
    repeat' ((first|refine nI ?_|refine aI ?_|refine tI ?_|refine fI ?_|fail);conv=>whnf)
    refine dD (withinT _ _ _) (fun _=>?_) (fun _=>?_) <;> (conv=>whnf)
    case refine_2=>rename_i hh; exact ⟨dec_f (no2 (fun hn=>hh (by have:=hn.1.1; have:=hn.1.2.1; omega))), rfl⟩
    rename_i g1
    refine cmpI ?_ ?_ <;> (intro g3; conv=>whnf)
    ·exact ⟨dec_f (no2 (fun hn=>hn.1.2.2.1 g3)), rfl⟩
    refine nI ?_
    conv=>whnf
    refine cmpI ?_ ?_ <;> (intro g4; conv=>whnf)
    ·exact ⟨dec_f (no2 (fun hn=>g4 hn.1.2.2.2)), rfl⟩
    have hpr : prtB c r x:=⟨by omega, by omega, g3, by
     by_cases e : c.states.getD x.partner.toNat 0 = r.pfrom
     ·exact e
     ·exact absurd e g4⟩
    repeat' ((first|refine nI ?_|refine aI ?_|refine tI ?_|refine fI ?_|fail);conv=>whnf)
   case pos=>exact ⟨dec_t (yes2 ⟨hpr, .inl k2⟩), rfl⟩
   have yes3 : pasB p c r x.process.toNat x.partner → enB p s c x f:=fun hh=>yes2 ⟨hpr, .inr hh⟩
   have no3 : ¬ pasB p c r x.process.toNat x.partner → ¬ enB p s c x f:=fun hn=>no2 (fun hh=>hh.2.elim k2 hn)
   rw [hpas] at yes3 no3
   refine cmpI ?_ ?_ <;> (intro d1; conv=>whnf)
   ·rw [if_pos d1] at yes3 no3
    refine cmpI ?_ ?_ <;> (intro d2; conv=>whnf)
    ·exact ⟨dec_t (yes3 (by omega)), rfl⟩
    ·exact ⟨dec_f (no3 (by omega)), rfl⟩
   rw [if_neg d1] at yes3 no3
   refine cmpI ?_ ?_ <;> (intro d2; conv=>whnf)
   ·rw [if_pos d2] at yes3 no3
    refine cmpI ?_ ?_ <;> (intro d3; conv=>whnf)
    ·exact ⟨dec_t (yes3 (by omega)), rfl⟩
    ·exact ⟨dec_f (no3 (by omega)), rfl⟩
   rw [if_neg d2] at yes3 no3
   refine cmpI ?_ ?_ <;> (intro d3; conv=>whnf)
   ·rw [if_pos d3] at yes3 no3
    refine cmpI ?_ ?_ <;> (intro d4; conv=>whnf)
    ·exact ⟨dec_t (yes3 (by omega)), rfl⟩
    refine cmpI ?_ ?_ <;> (intro d5; conv=>whnf)
    ·exact ⟨dec_t (yes3 (by omega)), rfl⟩
    ·exact ⟨dec_f (no3 (by omega)), rfl⟩
   ·rw [if_neg d3] at yes3 no3
    refine cmpI ?_ ?_ <;> (intro d4; conv=>whnf)
    ·exact ⟨dec_t (yes3 (by omega)), rfl⟩
    ·exact ⟨dec_f (no3 (by omega)), rfl⟩
  rw [if_neg k25] at yes2 no2
  by_cases hpa : x.partner = -1
  case neg =>
   repeat' ((first|refine nI ?_|refine aI ?_|refine tI ?_|refine fI ?_|fail);conv=>whnf)
   exact ⟨dec_f (no2 (fun hh=>hpa hh.1)), rfl⟩
  by_cases k1 : r.kind = 1
  ·rw [if_pos k1] at yes2 no2
   repeat' ((first|refine nI ?_|refine aI ?_|refine tI ?_|refine fI ?_|fail);conv=>whnf)
   refine dC (localR p s c r x.process f h hB (hR.guards k1)) (fun _=>?_) (fun _=>?_) <;> (conv=>whnf)
   ·rename_i h10; exact ⟨dec_t (yes2 ⟨hpa, h10⟩), rfl⟩
   ·rename_i h10; exact ⟨dec_f (no2 (fun hh=>h10 hh.2)), rfl⟩
  rw [if_neg k1] at yes2 no2
  by_cases k3 : r.kind = 3
  ·rw [if_pos k3] at yes2 no2
   repeat' ((first|refine nI ?_|refine aI ?_|refine tI ?_|refine fI ?_|fail);conv=>whnf)
   exact ⟨dec_t (yes2 ⟨hpa, trivial⟩), rfl⟩
  rw [if_neg k3] at yes2 no2
  have k4 : r.kind = 4:=by omega
  by_cases a1 : r.at_ = 1 ∧ x.process ≠ 0
  ·repeat' ((first|refine nI ?_|refine aI ?_|refine tI ?_|refine fI ?_|fail);conv=>whnf)
   exact ⟨dec_f (no2 (fun hh=>a1.2 (by have:=hh.2.1.1 a1.1; omega))), rfl⟩
  by_cases a2 : r.at_ = 2 ∧ ((p.topology = 2 ∧ nS p c x.process.toNat ≠ -1) ∨ (p.topology = 4 ∧ nF p c x.process.toNat ≠ -1))
  ·have hno : ¬ enB p s c x f:=no2 (fun hh=>by
    have:=hh.2.1.2 a2.1
    rcases a2.2 with a3 | a3
    ·exact a3.2 (this.1 a3.1)
    ·exact a3.2 (this.2 a3.1))
   repeat' ((first|refine nI ?_|refine aI ?_|refine arU trivial (by omega) ?_|refine arB trivial (by omega) ?_|refine dI ?_|refine dR ?_|refine dP ?_|refine boxP rfl ?_|refine pI _ rfl ?_|refine rowSetI _ rfl ?_|refine tI ?_|refine fI ?_|refine cmpI (fun _=>?_) (fun _=>?_)) <;> conv=>whnf)
   all_goals exact ⟨dec_f hno, rfl⟩
  have hpos : posB p c r x.process.toNat:=⟨fun e=>by omega, fun e=>⟨fun e2=>by omega, fun e2=>by omega⟩⟩
  repeat' ((first|refine nI ?_|refine aI ?_|refine arU trivial (by omega) ?_|refine arB trivial (by omega) ?_|refine dI ?_|refine dR ?_|refine dP ?_|refine boxP rfl ?_|refine pI _ rfl ?_|refine rowSetI _ rfl ?_|refine tI ?_|refine fI ?_|refine cmpI (fun _=>?_) (fun _=>?_)) <;> conv=>whnf)
  all_goals first
   |(exfalso; omega)
   |skip
  all_goals
   refine dC (allowedR c r.left _ (by omega) (by omega) h.wide) (fun _=>?_) (fun _=>?_) <;> (conv=>whnf)
   case refine_2=>rename_i h10; exact ⟨dec_f (no2 (fun hh=>h10 hh.2.2.1)), rfl⟩
   rename_i h10
   refine dC (allowedR c r.right _ (by omega) (by omega) h.wide) (fun _=>?_) (fun _=>?_) <;> (conv=>whnf)
   case refine_2=>rename_i h11; exact ⟨dec_f (no2 (fun hh=>h11 hh.2.2.2.1)), rfl⟩
   rename_i h11
   refine dC (allowedR c r.parent _ (by omega) (by omega) h.wide) (fun _=>?_) (fun _=>?_) <;> (conv=>whnf)
   ·rename_i h12; exact ⟨dec_t (yes2 ⟨hpa, hpos, h10, h11, h12⟩), rfl⟩
   ·rename_i h12; exact ⟨dec_f (no2 (fun hh=>h12 hh.2.2.2.2)), rfl⟩
def fcB (p : Pro) (s : Siz) (c : Cfg) (r i : Int) : Prop:=i < c.correct ∧ ∃ k : Nat, k ≤ c.states.length ∧ enB p s c ⟨r, i, (k : Int) - 1⟩ true
noncomputable instance decFc (p : Pro) (s : Siz) (c : Cfg) (r i : Int) : Decidable (fcB p s c r i):=Classical.propDecidable _
end Go.Proofs.YtnjggjhkfncnlaaGreatDoor
