import Derived.Test.YtboelimimjojoaaGreatDoorMH
import Derived.Test.YtboelimimjojoaaGreatDoorMI
set_option linter.unusedVariables false
set_option linter.unusedSimpArgs false
namespace Go.Proofs.YtboelimimjojoaaGreatDoor
set_option maxRecDepth 100000
set_option maxHeartbeats 16000000
structure SeR (p : Pro) (q : Prp) (s : Siz) (L : List Cfg) (o : List Int) : Prop where
 can : ∀ c ∈ L, canC p c = c
 sp : SpI L o
 wide : ∀ c ∈ L, wideB c = false
theorem SeR.add {p : Pro} {q : Prp} {s : Siz} {L : List Cfg} {o o' : List Int} (h : SeR p q s L o) {d : Cfg} (hr : Rdy p s d) (hs : SpI (adC L (canC p d)) o') : SeR p q s (addG (nmC p false) L (canC p d)) o' := by
 have e := adC_can h.can hr.plain.2.2
 have hi := canC_idem p hr.plain.2.2
 rw [e] at hs
 refine ⟨fun c hc => ?_, hs, fun c hc => ?_⟩
 ·rcases addG_of _ hc with h1 | h1
  ·exact h.can c h1
  ·rw [h1]; exact hi
 ·rcases addG_of _ hc with h1 | h1
  ·exact h.wide c h1
  ·rw [h1, canC_wide]; exact hr.wide
def rcL (p : Pro) (c : Cfg) (xs : List Stp) : List Cfg := xs.map fun x => canC p (apC c (rulX p x) x)
theorem rcL_len (p : Pro) (c : Cfg) (xs : List Stp) : (rcL p c xs).length = xs.length := by unfold rcL; rw [List.length_map]
theorem ReachR (p : Pro) (q : Prp) (s : Siz) (hp : ¬ bigP p) (hq : ¬ bigQ q) : PSpec Tryz.prog 26 [.agg (encP p), .agg (encQ q), .agg (encZ s)] (fun u => u = rchE p q s) := by
 have he := rchE.eq_1 p q s
 obtain ⟨m, e, hm, _⟩ := rchE_form p q s hp hq
 refine PSpec.rp ⟨m, e, hm⟩ ?_
 clear hm
 refine PSpec.intro tt_ok mx_ok Tryz.func26 rfl (by decide) ?_; (conv => whnf)
 refine boxP rfl ?_
 conv => whnf
 refine boxP rfl ?_
 conv => whnf
 refine boxP rfl ?_
 conv => whnf
 (refine oP (sizedPropertyR p q s hp hq) ?_; conv => whnf)
 refine cmpI ?_ ?_ <;> (intro h1; conv => whnf)
 ·rw [if_pos h1] at he; exact ⟨.inr ⟨_, rfl, he⟩, rfl⟩
 rw [if_neg h1] at he
 have S : Sys p q s := ⟨hp, hq, by omega⟩
 have hI := initialR p q s hp hq S.siz.1 S.siz.2
 by_cases hi : iniK p q s
 case neg =>
  rw [if_neg hi] at he
  rw [iniD_no hi] at hI
  refine Spec.of_pure (n := 5) hI rfl ?_
  rintro _ (rfl | ⟨rfl, _⟩)
  ·conv => whnf
   exact ⟨.inr ⟨_, rfl, he⟩, rfl⟩
  ·conv => whnf
   exact ⟨.inr ⟨_, rfl, he⟩, rfl⟩
 rw [if_pos hi] at he
 rw [iniD_yes hi] at hI
 refine Spec.of_pure (n := 5) hI rfl ?_
 rintro _ (rfl | ⟨_, h2⟩)
 case inr =>
  have := congrArg Prod.snd h2
  cases this
 have hX := iniX_le S hi
 have hXr := fun k (hk : k < (iniX p q s).length) => S.rdy ((iniX_mem S).1 (getD_memA cfg0 hk))
 have hZ : Sea p q s false (addsG (nmC p false) [] ((iniX p q s).map (canC p))) 0 := by
  refine Sea.zero _ (fun c hc => ?_) fun c hc => ?_
  ·obtain ⟨d, hd, rfl⟩ := List.mem_map.1 hc
   exact ((Wn.ini ((iniX_mem S).1 hd)).rp S).can
  ·rw [List.map_map]
   refine List.mem_map.2 ⟨c, (iniX_mem S).2 hc, ?_⟩
   exact canC_idem p (S.rdy hc).plain.2.2
 generalize iniX p q s = cs at hX hXr hZ ⊢
 conv => whnf
 refine WPc.loopF tt_ok mx_ok (fun z : Nat × List Int => z.1 ≤ cs.length ∧ SeR p q s (addsG (nmC p false) [] ((cs.take z.1).map (canC p))) z.2) (fun z => [(12, .int .i64 (z.1 : Int))]) (fun z => spB 11 (addsG (nmC p false) [] ((cs.take z.1).map (canC p))) z.2) (fun z => cs.length - z.1) (0, []) ⟨Nat.zero_le _, ⟨fun c hc => absurd hc List.not_mem_nil, SpI.nil, fun c hc => absurd hc List.not_mem_nil⟩⟩ ?_; conv => whnf
 refine ⟨Sub.by_ [(11, .old 11), (7002, .nil 6), (7003, .nil 1)] _ 400 rfl (auto_) (auto_), ?_⟩
 rintro ⟨k, o⟩ ⟨hk, hS⟩
 dsimp only at hk hS ⊢
 conv => whnf
 refine cmpI ?_ ?_ <;> (intro g1; conv => whnf)
 ·have hlt : k < cs.length := by omega
  have hr := hXr k hlt
  have e1 : addsG (nmC p false) [] ((cs.take (k + 1)).map (canC p)) = addG (nmC p false) (addsG (nmC p false) [] ((cs.take k).map (canC p))) (canC p (cs.getD k cfg0)) := by
   rw [takeC_up hlt, List.map_append, List.map_singleton, addsG_snoc]
  have hlen := addsG_len (nmC p false) ((cs.take k).map (canC p)) []
  rw [List.length_map, List.length_take, List.length_nil] at hlen
  generalize addsG (nmC p false) [] ((cs.take k).map (canC p)) = L at hS e1 hlen ⊢
  refine drawO (by decide +kernel) ?_
  conv => whnf
  refine nI ?_
  rw [tN]
  conv => whnf
  (refine oP (canonicalR p (cs.getD k cfg0) hr.wide hr.plain) ?_; conv => whnf)
  refine Spec.call (lmE 11) (spM L o) 400 rfl (auto_) (auto_) (addR L o (canC p (cs.getD k cfg0)) hS.sp (by omega) hS.wide) ?_
  rintro u M' ⟨o', b, h3, h4, rfl, rfl⟩
  have h5 := hS.add hr h3
  have e2 := adC_can (d := cs.getD k cfg0) hS.can hr.plain.2.2
  refine ⟨lbE 11, spE 11 (adC L (canC p (cs.getD k cfg0))) o', .bool b, rfl, (auto_), rfl, ?_⟩
  conv => whnf
  repeat' ((first|refine nI ?_|refine aI ?_|refine tI ?_|refine fI ?_|fail);conv => whnf)
  refine ⟨(k + 1, o'), ?_, ⟨by dsimp only; omega, by dsimp only; rw [e1]; exact h5⟩, by dsimp only; omega⟩
  dsimp only
  rw [e1, ← e2]
  exact Sub.by_ [(11, .old 11), (7002, .old 7004), (7003, .old 7005)] _ 400 rfl (auto_) (auto_)
 obtain rfl : k = cs.length := by omega
 rw [List.take_length] at hS ⊢
 have hlen := addsG_len (nmC p false) (cs.map (canC p)) []
 rw [List.length_map, List.length_nil] at hlen
 generalize addsG (nmC p false) [] (cs.map (canC p)) = L0 at hS hZ hlen ⊢
 refine WPc.loopF tt_ok mx_ok (fun z : Nat × List Cfg × List Int => SeR p q s z.2.1 z.2.2 ∧ Sea p q s false z.2.1 z.1 ∧ z.2.1.length ≤ 10000000) (fun z => [(13, .int .i64 (z.1 : Int))]) (fun z => spB 11 z.2.1 z.2.2) (fun z => 4001 - z.1) (0, L0, o) ⟨hS, hZ, by dsimp only; omega⟩ ?_; conv => whnf
 refine ⟨Sub.by_ [(11, .old 11), (7002, .old 7002), (7003, .old 7003)] _ 400 rfl (auto_) (auto_), ?_⟩
 clear hS hZ hlen
 rintro ⟨i, L, o⟩ ⟨hS, hZ, hbig⟩
 dsimp only at hS hZ hbig ⊢
 have hile := hZ.le
 conv => whnf
 refine cmpI ?_ ?_ <;> (intro g2; conv => whnf)
 ·have hil : i < L.length := by omega
  refine cmpI ?_ ?_ <;> (intro g3; conv => whnf)
  ·rw [rchA_no (hZ.many S (by omega))] at he
   exact ⟨.inr ⟨_, rfl, he⟩, rfl⟩
  have hc := (hZ.rep _ (getD_memA cfg0 hil)).1
  have hcR := hZ.rep _ (getD_memA cfg0 hil)
  refine dI ?_
  conv => whnf
  refine nI ?_
  rw [tN]
  conv => whnf
  (refine oC (stepsR p s (L.getD i cfg0) hc) ?_; conv => whnf)
  have hst := stA_le8 hc
  have hno := fun hx => hZ.over S hil hx
  have hnx := fun cs h1 h2 => hZ.next hil cs h1 h2
  obtain ⟨c, hcc⟩ : ∃ c, c = L.getD i cfg0 := ⟨_, rfl⟩
  rw [← hcc] at hc hcR hst hno hnx ⊢
  refine WPc.loopF tt_ok mx_ok (fun z : Nat × List Int => z.1 ≤ (stA p s c p.rules.length).length ∧ SeR p q s (addsG (nmC p false) L (rcL p c ((stA p s c p.rules.length).take z.1))) z.2 ∧ ∀ x ∈ (stA p s c p.rules.length).take z.1, apB c (rulX p x) x) (fun z => [(15, .int .i64 (z.1 : Int)), (49, .top), (55, .top), (61, .top), (63, .top)]) (fun z => spB 11 (addsG (nmC p false) L (rcL p c ((stA p s c p.rules.length).take z.1))) z.2) (fun z => (stA p s c p.rules.length).length - z.1) (0, o) ⟨Nat.zero_le _, hS, fun x hx => absurd hx List.not_mem_nil⟩ ?_; conv => whnf
  refine ⟨Sub.by_ [(11, .old 11), (7002, .old 7002), (7003, .old 7003)] _ 400 rfl (auto_) (auto_), ?_⟩
  rintro ⟨k, o2⟩ ⟨hk, hS2, hap⟩
  dsimp only at hk hS2 hap ⊢
  conv => whnf
  refine cmpI ?_ ?_ <;> (intro g4; conv => whnf)
  ·have hkl : k < (stA p s c p.rules.length).length := by omega
   have hx := stA_mem.1 (getD_memA stp0 hkl)
   have e3 := takeX_up hkl
   have hlen := addsG_len (nmC p false) (rcL p c ((stA p s c p.rules.length).take k)) L
   rw [rcL_len, List.length_take] at hlen
   have e1 : addsG (nmC p false) L (rcL p c ((stA p s c p.rules.length).take (k + 1))) = addG (nmC p false) (addsG (nmC p false) L (rcL p c ((stA p s c p.rules.length).take k))) (canC p (apC c (rulX p ((stA p s c p.rules.length).getD k stp0)) ((stA p s c p.rules.length).getD k stp0))) := by
    rw [e3, rcL, List.map_append, List.map_singleton, addsG_snoc]
    rfl
   have hget : (addsG (nmC p false) L (rcL p c ((stA p s c p.rules.length).take k))).getD i cfg0 = c := by
    obtain ⟨m, hm⟩ := addsG_pre (nmC p false) (rcL p c ((stA p s c p.rules.length).take k)) L
    rw [hm, getD_pre hil, hcc]
   have hll : i < (addsG (nmC p false) L (rcL p c ((stA p s c p.rules.length).take k))).length := by
    obtain ⟨m, hm⟩ := addsG_pre (nmC p false) (rcL p c ((stA p s c p.rules.length).take k)) L
    rw [hm, List.length_append]
    omega
   refine dI ?_
   conv => whnf
   refine nI ?_
   rw [tN]
   conv => whnf
   refine nI ?_
   rw [tN]
   conv => whnf
   rw [hget]
   generalize addsG (nmC p false) L (rcL p c ((stA p s c p.rules.length).take k)) = L2 at hS2 hlen e1 ⊢
   generalize (stA p s c p.rules.length).getD k stp0 = x at hx e1 e3 ⊢
   have hA : PSpec Tryz.prog 63 [.agg (encP p), .agg (encC c), .agg (encX x)] (fun u => u = .tup [.agg (encC (apC c (rulX p x) x)), .bool (decide (apB c (rulX p x) x))]) := applyR p s c x hc hx
   by_cases ha : apB c (rulX p x) x
   ·rw [decide_eq_true ha] at hA
    have hr := hc.next hx ha
    change Rdy p s (apC c (rulX p x) x) at hr
    (refine oC (hA) ?_; conv => whnf)
    repeat' ((first|refine nI ?_|refine aI ?_|refine tI ?_|refine fI ?_|fail);conv => whnf)
    (refine oP (canonicalR p (apC c (rulX p x) x) hr.wide hr.plain) ?_; conv => whnf)
    refine Spec.call (lmE 11) (spM L2 o2) 400 rfl (auto_) (auto_) (addR L2 o2 (canC p (apC c (rulX p x) x)) hS2.sp (by omega) hS2.wide) ?_
    rintro u M' ⟨o', b, h3, h4, rfl, rfl⟩
    have h5 := hS2.add hr h3
    have e2 := adC_can (d := apC c (rulX p x) x) hS2.can hr.plain.2.2
    refine ⟨lbE 11, spE 11 (adC L2 (canC p (apC c (rulX p x) x))) o', .bool b, rfl, (auto_), rfl, ?_⟩
    conv => whnf
    repeat' ((first|refine nI ?_|refine aI ?_|refine tI ?_|refine fI ?_|fail);conv => whnf)
    refine ⟨(k + 1, o'), ?_, ⟨by dsimp only; omega, by dsimp only; rw [e1]; exact h5, fun z hz => ?_⟩, by dsimp only; omega⟩
    ·dsimp only
     rw [e1, ← e2]
     exact Sub.by_ [(11, .old 11), (7002, .old 7004), (7003, .old 7005)] _ 400 rfl (auto_) (auto_)
    ·dsimp only at hz
     rw [e3] at hz
     rcases List.mem_append.1 hz with hz | hz
     ·exact hap z hz
     ·rw [List.mem_singleton] at hz
      subst hz
      exact ha
   ·rw [decide_eq_false ha] at hA
    (refine oC (hA) ?_; conv => whnf)
    repeat' ((first|refine nI ?_|refine aI ?_|refine tI ?_|refine fI ?_|fail);conv => whnf)
    rw [rchA_no (hno ⟨x, hx, ha⟩)] at he
    exact ⟨.inr ⟨_, rfl, he⟩, rfl⟩
  ·obtain rfl : k = (stA p s c p.rules.length).length := by omega
   rw [List.take_length] at hS2 hap ⊢
   have hlen := addsG_len (nmC p false) (rcL p c (stA p s c p.rules.length)) L
   rw [rcL_len] at hlen
   have hZ2 := hnx (rcL p c (stA p s c p.rules.length)) (fun d hd => by
    obtain ⟨x, hx, rfl⟩ := List.mem_map.1 hd
    exact (hcR.next S (stA_mem.1 hx) (hap x hx)).can) fun x hx => ⟨hap x (stA_mem.2 hx), by
     unfold rcL
     rw [List.map_map]
     refine List.mem_map.2 ⟨x, stA_mem.2 hx, ?_⟩
     exact canC_idem p (hcR.next S hx (hap x (stA_mem.2 hx))).1.plain.2.2⟩
   generalize addsG (nmC p false) L (rcL p c (stA p s c p.rules.length)) = L2 at hS2 hZ2 hlen ⊢
   repeat' ((first|refine nI ?_|refine aI ?_|refine tI ?_|refine fI ?_|fail);conv => whnf)
   refine ⟨(i + 1, L2, o2), ?_, ⟨hS2, hZ2, by dsimp only; omega⟩, by dsimp only; omega⟩
   dsimp only
   exact Sub.by_ [(11, .old 11), (7002, .old 7002), (7003, .old 7003)] _ 400 rfl (auto_) (auto_)
 ·refine cmpI ?_ ?_ <;> (intro g3; conv => whnf)
  ·rw [rchA_no (hZ.many S (by omega))] at he
   exact ⟨.inr ⟨_, rfl, he⟩, rfl⟩
  have hC := hZ.clo (by omega)
  have hmap : L.map (canC p) = L := map_can hS.can
  have hnd : L.Nodup := by
   have := hC.dis
   rw [map_can hS.can] at this
   exact this
  rw [rchA_yes S hC (by omega), hmap, ← svL_srt hS.sp hnd] at he
  have hsv := svL_len L o
  refine Spec.call (lmE 11) (spM L o) 400 rfl (auto_) (auto_) (sortedR L o hS.sp (by omega) hS.wide) ?_
  rintro u M' ⟨rfl, rfl⟩
  refine ⟨[(7006, .old 7006), (11, .old 7001), (7002, .old 7002), (7003, .old 7003)], (7006, rowC (svL L o)) :: spB 11 L o, .row 7006 o.length 6, rfl, (auto_), rfl, ?_⟩
  conv => whnf
  exact ⟨.inl he.symm, rfl⟩
end Go.Proofs.YtboelimimjojoaaGreatDoor
