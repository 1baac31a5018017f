import Derived.Test.YtkanoljhphmdcaaGreatDoorM6
set_option linter.unusedVariables false
set_option linter.unusedSimpArgs false
namespace Go.Proofs.YtkanoljhphmdcaaGreatDoor
set_option maxRecDepth 100000
set_option maxHeartbeats 16000000
theorem toNat_cast {i : Int} (h : 0 ≤ i) : ((i.toNat : Nat) : Int) = i:=by omega
theorem enabledV (p : Pro) (s : Siz) (c : Cfg) (x : Stp) (f : Bool) (h : Rdy p s c) : PSpec Tryz.prog 37 [.agg (encV p s c), .agg (encX x), .bool f] (fun u=>u = .bool (decide (enB p s c x f))):=by
 have hle:=bigP_le h.big
 have hc:=wide_le h.wide
 have f1 : ((List.range c.states.length).map (nbF p.topology c.shape c.states.length)).length = c.states.length:=by simp
 have f2 : ((List.range c.states.length).map (nbS p.topology c.shape c.states.length)).length = c.states.length:=by simp
 have f3 : ((List.range c.states.length).map (nbP p.topology c.shape c.states.length)).length = c.states.length:=by simp
 refine PSpec.intro tt_ok mx_ok Tryz.func37 rfl (by decide) ?_; (conv=>whnf)
 refine boxP rfl ?_
 conv=>whnf
 refine boxP rfl ?_
 conv=>whnf
 refine cmpI ?_ ?_ <;> (intro h1; conv=>whnf)
 ·exact ⟨dec_f (fun hh=>by have:=hh.1; omega), rfl⟩
 refine cmpI ?_ ?_ <;> (intro h2; conv=>whnf)
 ·exact ⟨dec_f (fun hh=>by have:=hh.1; omega), rfl⟩
 refine cmpI ?_ ?_ <;> (intro h3; conv=>whnf)
 ·exact ⟨dec_f (fun hh=>by have:=hh.1; omega), rfl⟩
 refine cmpI ?_ ?_ <;> (intro h4; conv=>whnf)
 ·exact ⟨dec_f (fun hh=>by have:=hh.1; omega), rfl⟩
 have yes : enC p s c (p.rules.getD x.rule.toNat rul0) x f → enB p s c x f:=fun hh=>⟨by omega, hh⟩
 have no : ¬ enC p s c (p.rules.getD x.rule.toNat rul0) x f → ¬ enB p s c x f:=fun hn hh=>hn hh.2
 have hR:=valid_rule h.val (i:=x.rule.toNat) (by omega)
 have hB:=bigP_rule h.big (j:=x.rule.toNat) (by omega)
 have hbr:=bigR_le hB
 refine nI ?_
 generalize p.rules.getD x.rule.toNat rul0 = r at yes no hR hB hbr
 have hrd:=hR.read
 have hfit:=hR.fit
 unfold fitB at hfit
 conv=>whnf
 refine dI ?_
 conv=>whnf
 refine nI ?_
 conv=>whnf
 refine cmpI ?_ ?_ <;> (intro h5; conv=>whnf)
 ·exact ⟨dec_f (no (fun hh=>h5 hh.1)), rfl⟩
 have h5' : c.states.getD x.process.toNat 0 = r.src:=by
  by_cases e : c.states.getD x.process.toNat 0 = r.src
  ·exact e
  ·exact absurd e h5
 by_cases h6 : r.read = -1 ∨ c.value = r.read
 case neg =>
  repeat' ((first|refine nI ?_|refine aI ?_|refine tI ?_|refine fI ?_|fail);conv=>whnf)
  exact ⟨dec_f (no (fun hh=>h6 hh.2.1)), rfl⟩
 have yes2 : kinB p s c r x f → enB p s c x f:=fun hh=>yes ⟨h5', h6, hh⟩
 have no2 : ¬ kinB p s c r x f → ¬ enB p s c x f:=fun hn=>no (fun hh=>hn hh.2.2)
 have hkb : kinB p s c r x f = (if r.kind = 2 ∨ r.kind = 5 then prtB c r x ∧ (r.kind = 2 ∨ pasB p c r x.process.toNat x.partner)
  else x.partner = -1 ∧ (if r.kind = 1 then grdB p s c r f ∧ othB c r x.process else if r.kind = 3 then True else nbrB p c r x.process.toNat)):=rfl
 rw [hkb] at yes2 no2
 have hcase : (r.read = -1) ∨ (0 ≤ r.read ∧ c.value = r.read):=by omega
 rcases hcase with h7 | ⟨h7, h8⟩
 all_goals
  repeat' ((first|refine nI ?_|refine aI ?_|refine tI ?_|refine fI ?_|fail);conv=>whnf)
  by_cases k25 : r.kind = 2 ∨ r.kind = 5
  ·rw [if_pos k25] at yes2 no2
   by_cases hpr : prtB c r x
   case neg =>
    have hpr' : ¬ (0 ≤ x.partner ∧ x.partner < c.states.length ∧ x.partner ≠ x.process ∧ c.states.getD x.partner.toNat 0 = r.pfrom):=hpr
    rcases k25 with k2 | k5
    all_goals
     repeat' ((first|refine nI ?_|refine aI ?_|refine tI ?_|refine fI ?_|fail);conv=>whnf)
     refine dI ?_
     conv=>whnf
     refine cmpI ?_ ?_ <;> (intro g1; conv=>whnf)
     ·exact ⟨dec_f (no2 (fun hh=>hpr hh.1)), rfl⟩
     refine cmpI ?_ ?_ <;> (intro g2; conv=>whnf)
     ·exact ⟨dec_f (no2 (fun hh=>hpr hh.1)), rfl⟩
     refine cmpI ?_ ?_ <;> (intro g3; conv=>whnf)
     ·exact ⟨dec_f (no2 (fun hh=>hpr hh.1)), rfl⟩
     refine nI ?_
     conv=>whnf
     refine tI ?_
     conv=>whnf
     exact ⟨dec_f (no2 (fun hh=>hpr hh.1)), rfl⟩
   obtain ⟨g1, g2, g3, g4⟩:=id hpr
   by_cases k2 : r.kind = 2
   ·repeat' ((first|refine nI ?_|refine aI ?_|refine tI ?_|refine fI ?_|fail);conv=>whnf)
    refine dI ?_
    conv=>whnf
    repeat' ((first|refine nI ?_|refine aI ?_|refine tI ?_|refine fI ?_|fail);conv=>whnf)
    exact ⟨dec_t (yes2 ⟨hpr, .inl k2⟩), rfl⟩
   ·repeat' ((first|refine nI ?_|refine aI ?_|refine tI ?_|refine fI ?_|fail);conv=>whnf)
    refine dI ?_
    conv=>whnf
    repeat' ((first|refine nI ?_|refine aI ?_|refine tI ?_|refine fI ?_|fail);conv=>whnf)
    have hp:=passesV p s c r x.process.toNat x.partner (by omega)
    rw [toNat_cast (by omega)] at hp
    refine dC (hp) (fun _=>?_) (fun _=>?_) <;> (conv=>whnf)
    ·rename_i h9; exact ⟨dec_t (yes2 ⟨hpr, .inr h9⟩), rfl⟩
    ·rename_i h9; exact ⟨dec_f (no2 (fun hh=>hh.2.elim k2 h9)), rfl⟩
  rw [if_neg k25] at yes2 no2
  by_cases hpa : x.partner = -1
  case neg =>
   repeat' ((first|refine nI ?_|refine aI ?_|refine tI ?_|refine fI ?_|fail);conv=>whnf)
   exact ⟨dec_f (no2 (fun hh=>hpa hh.1)), rfl⟩
  by_cases k1 : r.kind = 1
  ·rw [if_pos k1] at yes2 no2
   repeat' ((first|refine nI ?_|refine aI ?_|refine tI ?_|refine fI ?_|fail);conv=>whnf)
   refine dC (guardsV p s c r f h hB (hR.guards k1)) (fun _=>?_) (fun _=>?_) <;> (conv=>whnf)
   case refine_2=>rename_i h9; exact ⟨dec_f (no2 (fun hh=>h9 hh.2.1)), rfl⟩
   rename_i h9
   refine dC (othersV p s c r x.process h.wide hB) (fun _=>?_) (fun _=>?_) <;> (conv=>whnf)
   ·rename_i h10; exact ⟨dec_t (yes2 ⟨hpa, h9, h10⟩), rfl⟩
   ·rename_i h10; exact ⟨dec_f (no2 (fun hh=>h10 hh.2.2)), rfl⟩
  rw [if_neg k1] at yes2 no2
  by_cases k3 : r.kind = 3
  ·rw [if_pos k3] at yes2 no2
   repeat' ((first|refine nI ?_|refine aI ?_|refine tI ?_|refine fI ?_|fail);conv=>whnf)
   exact ⟨dec_t (yes2 ⟨hpa, trivial⟩), rfl⟩
  rw [if_neg k3] at yes2 no2
  have k4 : r.kind = 4:=by omega
  have hlt:=nb_lt (t:=p.topology) (l:=c.shape) (n:=c.states.length) (i:=x.process.toNat) (by omega)
  have hlp:=nbP_b (t:=p.topology) (l:=c.shape) (n:=c.states.length) (i:=x.process.toNat) (by omega)
  repeat' ((first|refine nI ?_|refine aI ?_|refine tI ?_|refine fI ?_|fail);conv=>whnf)
  refine dI ?_
  conv=>whnf
  have hpo:=positionV p s c r x.process.toNat h hR k4 (by omega)
  rw [toNat_cast (by omega)] at hpo
  refine dD (hpo) (fun _=>?_) (fun _=>?_) <;> (conv=>whnf)
  case refine_2=>rename_i h9; exact ⟨dec_f (no2 (fun hh=>h9 hh.2.1)), rfl⟩
  rename_i h9
  refine nI ?_
  rw [getD_map_range _ _ _ (by omega)]
  conv=>whnf
  refine dD (nearV p s c r.left _ (by omega) (by omega) h.wide) (fun _=>?_) (fun _=>?_) <;> (conv=>whnf)
  case refine_2=>rename_i h10; exact ⟨dec_f (no2 (fun hh=>h10 hh.2.2.1)), rfl⟩
  rename_i h10
  refine nI ?_
  rw [getD_map_range _ _ _ (by omega)]
  conv=>whnf
  refine dD (nearV p s c r.right _ (by omega) (by omega) h.wide) (fun _=>?_) (fun _=>?_) <;> (conv=>whnf)
  case refine_2=>rename_i h11; exact ⟨dec_f (no2 (fun hh=>h11 hh.2.2.2.1)), rfl⟩
  rename_i h11
  refine nI ?_
  rw [getD_map_range _ _ _ (by omega)]
  conv=>whnf
  refine dD (nearV p s c r.parent _ (by omega) (by omega) h.wide) (fun _=>?_) (fun _=>?_) <;> (conv=>whnf)
  ·rename_i h12; exact ⟨dec_t (yes2 ⟨hpa, h9, h10, h11, h12⟩), rfl⟩
  ·rename_i h12; exact ⟨dec_f (no2 (fun hh=>h12 hh.2.2.2.2)), rfl⟩
end Go.Proofs.YtkanoljhphmdcaaGreatDoor
