import Derived.Test.YtjnjieabdjpfnaaGreatDoorMD
set_option linter.unusedVariables false
set_option linter.unusedSimpArgs false
namespace Go.Proofs.YtjnjieabdjpfnaaGreatDoor
set_option maxRecDepth 100000
set_option maxHeartbeats 16000000
theorem caE_form (p : Pro) (c : Cfg) (hw : wideB c = false) : ∃ (d : Cfg) (e : Int), caE p c = .tup [.agg (encC d), .int .i64 e] ∧ wideB d = false := by
 refine ⟨_, _, rfl, ?_⟩
 by_cases h : cnE p c = 0
 ·rw [if_pos h, canC_wide]; exact hw
 ·rw [if_neg h]; rfl
theorem coE_form (p : Pro) (c : Cfg) : ∃ (l : List Int) (e : Int), coE p c = .tup [.sl 0 encI l, .int .i64 e] ∧ (l = [] ∨ l.length = p.states.length) := by
 refine ⟨_, _, rfl, ?_⟩
 by_cases h : cnE p c = 0
 ·rw [if_pos h]; exact .inr (cntL_len _ _)
 ·rw [if_neg h]; exact .inl rfl
theorem lawCounts (p : Pro) (c : Cfg) : PSpec Tryz.prog 14 [.agg (encP p), .agg (encC c)] (fun u => u = .bool true) := by
 refine PSpec.intro tt_ok mx_ok Tryz.func14 rfl (by decide) ?_; (conv => whnf)
 refine boxP rfl ?_
 conv => whnf
 refine boxP rfl ?_
 conv => whnf
 refine dC (bigF p) (fun _ => ?_) (fun _ => ?_) <;> (conv => whnf)
 ·(refine oP (knownF) ?_; conv => whnf)
  exact ⟨rfl, rfl⟩
 rename_i hp
 have hW := wideF c
 cases hw : wideB c with
 |true =>
  rw [hw] at hW
  (refine oP (hW) ?_; conv => whnf)
  (refine oP (knownF) ?_; conv => whnf)
  exact ⟨rfl, rfl⟩
 |false =>
  rw [hw] at hW
  (refine oP (hW) ?_; conv => whnf)
  have hle := bigP_le hp
  have b1 := CountsF p c hp hw
  have b2 := CountsR p c hp hw
  have b3 := CanonicalF p c hp hw
  have b4 := CanonicalR p c hp hw
  obtain ⟨l, e, h1, hl⟩ := coE_form p c
  obtain ⟨d, e', h2, hd⟩ := caE_form p c hw
  have hl' : l.length ≤ 4611686018427387904 := by
   rcases hl with rfl | hl
   ·exact Nat.zero_le _
   ·omega
  rw [h1] at b1 b2
  rw [h2] at b3 b4
  have b5 := refSameInts l l hl'
  rw [decide_eq_true (cmpL_self l)] at b5
  have b6 := compareR d d hd
  rw [cmpC_self] at b6
  (refine oP (b1) ?_; conv => whnf)
  (refine oP (b2) ?_; conv => whnf)
  (refine oP (b3) ?_; conv => whnf)
  (refine oP (b4) ?_; conv => whnf)
  refine cmpT rfl ?_
  conv => whnf
  (refine oP (b5) ?_; conv => whnf)
  refine cmpT rfl ?_
  conv => whnf
  (refine oP (b6) ?_; conv => whnf)
  repeat' ((first|refine nI ?_|refine aI ?_|refine tI ?_|refine fI ?_|fail);conv => whnf)
  (refine oP (knownF) ?_; conv => whnf)
  exact ⟨rfl, rfl⟩
theorem lawSymmetric (p : Pro) (q : Prp) (c : Cfg) : PSpec Tryz.prog 15 [.agg (encP p), .agg (encQ q), .agg (encC c)] (fun u => u = .bool true) := by
 refine PSpec.intro tt_ok mx_ok Tryz.func15 rfl (by decide) ?_; (conv => whnf)
 refine boxP rfl ?_
 conv => whnf
 refine boxP rfl ?_
 conv => whnf
 refine boxP rfl ?_
 conv => whnf
 refine dC (bigF p) (fun _ => ?_) (fun _ => ?_) <;> (conv => whnf)
 ·(refine oP (knownF) ?_; conv => whnf)
  exact ⟨rfl, rfl⟩
 rename_i hp
 refine dC (bigQF q) (fun _ => ?_) (fun _ => ?_) <;> (conv => whnf)
 ·(refine oP (knownF) ?_; conv => whnf)
  exact ⟨rfl, rfl⟩
 rename_i hq
 have hW := wideF c
 cases hw : wideB c with
 |true =>
  rw [hw] at hW
  (refine oP (hW) ?_; conv => whnf)
  (refine oP (knownF) ?_; conv => whnf)
  exact ⟨rfl, rfl⟩
 |false =>
  rw [hw] at hW
  (refine oP (hW) ?_; conv => whnf)
  have hle := bigP_le hp
  have b1 := CanonicalF p c hp hw
  by_cases hc : cnE p c = 0
  case neg =>
   have e1 : caE p c = .tup [.agg (encC cfg0), .int .i64 (cnE p c)] := by unfold caE; rw [if_neg hc]
   rw [e1] at b1
   (refine oP (b1) ?_; conv => whnf)
   refine cmpT hc ?_
   conv => whnf
   refine cmpT rfl ?_
   conv => whnf
   (refine oP (knownF) ?_; conv => whnf)
   exact ⟨rfl, rfl⟩
  have hcc := cnE_ok.1 hc
  have hpl := hcc.2
  have hc2 : cnE p (canC p c) = 0 := cnE_ok.2 ⟨hcc.1, canC_plB hpl⟩
  have hw2 : wideB (canC p c) = false := by rw [canC_wide]; exact hw
  have e1 : caE p c = .tup [.agg (encC (canC p c)), .int .i64 0] := by unfold caE; rw [if_pos hc, hc]
  have e2 : caE p (canC p c) = .tup [.agg (encC (canC p c)), .int .i64 0] := by unfold caE; rw [if_pos hc2, hc2, canC_idem p hpl.2.2]
  have e3 : coE p c = .tup [.sl 0 encI (cntL p.states.length (c.states.take c.correct.toNat)), .int .i64 0] := by unfold coE; rw [if_pos hc, hc]
  have e4 : coE p (canC p c) = .tup [.sl 0 encI (cntL p.states.length (c.states.take c.correct.toNat)), .int .i64 0] := by unfold coE; rw [if_pos hc2, hc2, canC_cnt p _ hpl.2.2]
  have b2 := CanonicalF p (canC p c) hp hw2
  have b3 := CountsF p c hp hw
  have b4 := CountsF p (canC p c) hp hw2
  have b5 := BadF p q c hp hq hw
  have b6 := BadF p q (canC p c) hp hq hw2
  have b7 := ReachedF p q c hp hq hw
  have b8 := ReachedF p q (canC p c) hp hq hw2
  rw [bdE_can p q hpl.2.2] at b6
  rw [rcE_can p q hpl.2.1 hpl.2.2] at b8
  rw [e1] at b1
  rw [e2] at b2
  rw [e3] at b3
  rw [e4] at b4
  obtain ⟨a, e, h1⟩ := bdE_form p q c
  obtain ⟨a', e', h2⟩ := rcE_form p q c
  rw [h1] at b5 b6
  rw [h2] at b7 b8
  have hl' : (cntL p.states.length (c.states.take c.correct.toNat)).length ≤ 4611686018427387904 := by rw [cntL_len]; omega
  have b9 := refSameInts (cntL p.states.length (c.states.take c.correct.toNat)) (cntL p.states.length (c.states.take c.correct.toNat)) hl'
  rw [decide_eq_true (cmpL_self _)] at b9
  have b10 := compareC (canC p c) (canC p c) hw2
  rw [cmpC_self] at b10
  generalize cntL p.states.length (c.states.take c.correct.toNat) = L at b3 b4 b9
  generalize canC p c = d at b1 b2 b4 b6 b8 b10
  cases a <;> cases a'
  all_goals
   (refine oP (b1) ?_; conv => whnf)
   refine fI ?_
   conv => whnf
   (refine oP (b2) ?_; conv => whnf)
   (refine oP (b3) ?_; conv => whnf)
   (refine oP (b4) ?_; conv => whnf)
   (refine oP (b5) ?_; conv => whnf)
   (refine oP (b6) ?_; conv => whnf)
   (refine oP (b7) ?_; conv => whnf)
   (refine oP (b8) ?_; conv => whnf)
   repeat' ((first|refine nI ?_|refine aI ?_|refine tI ?_|refine fI ?_|fail);conv => whnf)
   (refine oP (b10) ?_; conv => whnf)
   repeat' ((first|refine nI ?_|refine aI ?_|refine tI ?_|refine fI ?_|fail);conv => whnf)
   (refine oP (b9) ?_; conv => whnf)
   repeat' ((first|refine nI ?_|refine aI ?_|refine tI ?_|refine fI ?_|fail);conv => whnf)
   (refine oP (knownF) ?_; conv => whnf)
   exact ⟨rfl, rfl⟩
end Go.Proofs.YtjnjieabdjpfnaaGreatDoor
