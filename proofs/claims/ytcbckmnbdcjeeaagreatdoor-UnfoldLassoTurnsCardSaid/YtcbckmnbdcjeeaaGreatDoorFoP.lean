
/-
  The configuration after a step, by the document's answer; Apply of any arguments.
-/
import Derived.Test.YtcbckmnbdcjeeaaGreatDoorFoO
set_option linter.unusedVariables false
set_option linter.unusedSimpArgs false
namespace Go.Proofs.YtcbckmnbdcjeeaaGreatDoor
set_option maxRecDepth 100000
set_option maxHeartbeats 16000000

def apM2 (c : Cfg) (r : Rul) (v : Int) (st se fa : List Int) : List (Nat × Blk) := [(6, bxN), (8, bxR r), (9, bxC c v), (1001, rowN c.shape), (1002, rowN st), (1003, rowN se), (1004, rowN fa)]
theorem snd_up {l ms : List Int} {k : Nat} (ha : ∀ j, j < k → (bumpL l (ms.take (j + 1))).getD (ms.getD j 0).toNat 0 ≤ 1048576) (h : (bumpL l (ms.take (k + 1))).getD (ms.getD k 0).toNat 0 ≤ 1048576) : ∀ j, j < k + 1 → (bumpL l (ms.take (j + 1))).getD (ms.getD j 0).toNat 0 ≤ 1048576 := fun j hj => by
  by_cases e : j = k
  · subst e; exact h
  · exact ha j (by omega)
theorem applyR1nt (p : Pro) (s : Siz) (c : Cfg) (x : Stp) (h : Rdy p s c) (he : enB p s c x false) (hk0 : (p.rules.getD x.rule.toNat rul0).kind = 1 ∨ (p.rules.getD x.rule.toNat rul0).kind = 4) (hwr0 : (p.rules.getD x.rule.toNat rul0).write = -1) (hcor0 : x.process < c.correct) : PSpec Tryz.prog 135 [.agg (encP p), .agg (encC c), .agg (encX x)] (fun u => u = .tup [.agg (encC (apC c (p.rules.getD x.rule.toNat rul0) x)), .bool (decide (apB c (p.rules.getD x.rule.toNat rul0) x))]) := by
  have hle := bigP_le h.big
  have hc := wide_le h.wide
  obtain ⟨hin, hen⟩ := he
  have hR := valid_rule h.val (i := x.rule.toNat) (by omega)
  have hB := bigP_rule h.big (j := x.rule.toNat) (by omega)
  have hsn := h.vc.snl
  have hfa := h.vc.fal
  have hsta := h.vc.sta
  refine PSpec.intro tt_ok mx_ok Tryz.func135 rfl (by decide) ?_; (conv => whnf)
  refine boxP rfl ?_
  conv => whnf
  refine boxP rfl ?_
  conv => whnf
  refine boxP rfl ?_
  conv => whnf
  refine drawF (by decide +kernel) ?_
  conv => whnf
  refine needI (by omega) ?_
  generalize p.rules.getD x.rule.toNat rul0 = r at hen hR hB hk0 hwr0 ⊢
  have hwr := hwr0
  have hcor := hcor0
  have hbr := bigR_le hB
  have hrd := hR.read
  have hfit := hR.fit
  unfold fitB at hfit
  have hse := hR.send
  conv => whnf
  refine callLN 400 (lmC 1001 1002 1003 1004) (memC c) (cfgL c) (copyL c h.wide) (auto_) rfl rfl outC ?_
  conv => whnf
  have hpl : x.process.toNat < c.states.length := by omega
  have hpc : ((x.process.toNat : Nat) : Int) = x.process := by omega
  have k14 := hk0
  have hst : c.states.set x.process.toNat r.dst = stN c r x := st_of (by simp) fun j hj => by
    rw [getD_set]
    unfold stG
    by_cases e : x.process.toNat = j
    · rw [if_pos ⟨e, by omega⟩, if_pos (by omega)]
    · rw [if_neg (fun h => e h.1), if_neg (by omega), if_neg (by omega), if_neg (by omega)]
  repeat' (first
      | (refine needI (by first | omega | (dsimp only; omega)) ?_; conv => whnf)
      | (refine arI trivial (by omega) ?_; conv => whnf)
      | (refine cmpT (by omega) ?_; conv => whnf)
      | (refine cmpF (by omega) ?_; conv => whnf)
      | fail)
  refine rowSetI _ rfl ?_
  rw [hst]
  conv => whnf
  refine cmpF (by omega) ?_
  conv => whnf
  refine WPc.loopF tt_ok mx_ok (fun z : Nat × Bool => z.1 ≤ r.send.length ∧ (z.2 = true ↔ ∀ j, j < z.1 → (bumpL c.sent (r.send.take (j + 1))).getD (r.send.getD j 0).toNat 0 ≤ 1048576)) (fun z => [(12, .int .i64 (z.1 : Int)), (11, .bool z.2)]) (fun z => apM2 c r c.value (stN c r x) (bumpL c.sent (r.send.take z.1)) c.faulty) (fun z => r.send.length - z.1) (0, true) ⟨Nat.zero_le _, iffT (fun j hj => by dsimp only at hj; omega)⟩ ?_; conv => whnf
  refine ⟨(Sub.id_ 400 rfl auto_ auto_), ?_⟩
  rintro ⟨k, b⟩ ⟨hk, hb⟩
  dsimp only at hk hb ⊢
  cases b
  · conv => whnf
    refine cmpI (fun g1 => ?_) (fun g1 => ?_) <;> conv => whnf
    · have hm := hse k (by omega)
      have hbb := bumpL_b (r.send.take k) c.sent 1048576 (inR_all h.sent.1) (r.send.getD k 0).toNat
      have htl : (r.send.take k).length ≤ 60 := by rw [List.length_take]; omega
      have hup := bumpL_up (l := c.sent) (ms := r.send) (k := k) (by omega)
      refine cmpT hcor ?_
      conv => whnf
      refine drawI (by decide +kernel) ?_
      conv => whnf
      refine needI (by omega) ?_
      rw [Int.toNat_natCast]
      conv => whnf
      refine needI (by omega) ?_
      conv => whnf
      refine arI trivial (by omega) ?_
      conv => whnf
      refine needI (by omega) ?_
      conv => whnf
      refine rowSetI _ rfl ?_
      rw [← hup]
      conv => whnf
      refine drawI (by decide +kernel) ?_
      conv => whnf
      repeat' (first
          | (refine needI (by first | omega | (dsimp only; omega)) ?_; conv => whnf)
          | (refine arI trivial (by omega) ?_; conv => whnf)
          | (refine cmpT (by omega) ?_; conv => whnf)
          | (refine cmpF (by omega) ?_; conv => whnf)
          | fail)
      exact ⟨(k + 1, false), (Sub.id_ 400 rfl auto_ auto_), ⟨by dsimp only; omega, iffF (fun hh => nIff hb (fun j hj => hh j (by omega)))⟩, by dsimp only; omega⟩
    · obtain rfl : k = r.send.length := by omega
      rw [List.take_length]
      have hap : ¬ apB c r x := by unfold apB; rw [if_pos hcor]; exact nIff hb
      refine ⟨?_, rfl⟩
      rw [decide_eq_false hap, apC_t hcor, if_pos hwr]
      rfl
  · conv => whnf
    refine cmpI (fun g1 => ?_) (fun g1 => ?_) <;> conv => whnf
    · have hm := hse k (by omega)
      have hbb := bumpL_b (r.send.take k) c.sent 1048576 (inR_all h.sent.1) (r.send.getD k 0).toNat
      have htl : (r.send.take k).length ≤ 60 := by rw [List.length_take]; omega
      have hup := bumpL_up (l := c.sent) (ms := r.send) (k := k) (by omega)
      refine cmpT hcor ?_
      conv => whnf
      refine drawI (by decide +kernel) ?_
      conv => whnf
      refine needI (by omega) ?_
      rw [Int.toNat_natCast]
      conv => whnf
      refine needI (by omega) ?_
      conv => whnf
      refine arI trivial (by omega) ?_
      conv => whnf
      refine needI (by omega) ?_
      conv => whnf
      refine rowSetI _ rfl ?_
      rw [← hup]
      conv => whnf
      refine drawI (by decide +kernel) ?_
      conv => whnf
      refine needI (by omega) ?_
      rw [Int.toNat_natCast]
      conv => whnf
      refine needI (by omega) ?_
      conv => whnf
      refine cmpI (fun g2 => ?_) (fun g2 => ?_) <;> conv => whnf
      · repeat' (first
            | (refine needI (by first | omega | (dsimp only; omega)) ?_; conv => whnf)
            | (refine arI trivial (by omega) ?_; conv => whnf)
            | (refine cmpT (by omega) ?_; conv => whnf)
            | (refine cmpF (by omega) ?_; conv => whnf)
            | fail)
        exact ⟨(k + 1, true), (Sub.id_ 400 rfl auto_ auto_), ⟨by dsimp only; omega, iffT (snd_up (hb.1 rfl) g2)⟩, by dsimp only; omega⟩
      · repeat' (first
            | (refine needI (by first | omega | (dsimp only; omega)) ?_; conv => whnf)
            | (refine arI trivial (by omega) ?_; conv => whnf)
            | (refine cmpT (by omega) ?_; conv => whnf)
            | (refine cmpF (by omega) ?_; conv => whnf)
            | fail)
        exact ⟨(k + 1, false), (Sub.id_ 400 rfl auto_ auto_), ⟨by dsimp only; omega, iffF (fun hh => g2 (hh k (by omega)))⟩, by dsimp only; omega⟩
    · obtain rfl : k = r.send.length := by omega
      rw [List.take_length]
      have hap : apB c r x := by unfold apB; rw [if_pos hcor]; exact hb.1 rfl
      refine ⟨?_, rfl⟩
      rw [decide_eq_true hap, apC_t hcor, if_pos hwr]
      rfl
theorem applyR1nf (p : Pro) (s : Siz) (c : Cfg) (x : Stp) (h : Rdy p s c) (he : enB p s c x false) (hk0 : (p.rules.getD x.rule.toNat rul0).kind = 1 ∨ (p.rules.getD x.rule.toNat rul0).kind = 4) (hwr0 : (p.rules.getD x.rule.toNat rul0).write = -1) (hcor0 : ¬ x.process < c.correct) : PSpec Tryz.prog 135 [.agg (encP p), .agg (encC c), .agg (encX x)] (fun u => u = .tup [.agg (encC (apC c (p.rules.getD x.rule.toNat rul0) x)), .bool (decide (apB c (p.rules.getD x.rule.toNat rul0) x))]) := by
  have hle := bigP_le h.big
  have hc := wide_le h.wide
  obtain ⟨hin, hen⟩ := he
  have hR := valid_rule h.val (i := x.rule.toNat) (by omega)
  have hB := bigP_rule h.big (j := x.rule.toNat) (by omega)
  have hsn := h.vc.snl
  have hfa := h.vc.fal
  have hsta := h.vc.sta
  refine PSpec.intro tt_ok mx_ok Tryz.func135 rfl (by decide) ?_; (conv => whnf)
  refine boxP rfl ?_
  conv => whnf
  refine boxP rfl ?_
  conv => whnf
  refine boxP rfl ?_
  conv => whnf
  refine drawF (by decide +kernel) ?_
  conv => whnf
  refine needI (by omega) ?_
  generalize p.rules.getD x.rule.toNat rul0 = r at hen hR hB hk0 hwr0 ⊢
  have hwr := hwr0
  have hcor := hcor0
  have hbr := bigR_le hB
  have hrd := hR.read
  have hfit := hR.fit
  unfold fitB at hfit
  have hse := hR.send
  conv => whnf
  refine callLN 400 (lmC 1001 1002 1003 1004) (memC c) (cfgL c) (copyL c h.wide) (auto_) rfl rfl outC ?_
  conv => whnf
  have hpl : x.process.toNat < c.states.length := by omega
  have hpc : ((x.process.toNat : Nat) : Int) = x.process := by omega
  have k14 := hk0
  have hst : c.states.set x.process.toNat r.dst = stN c r x := st_of (by simp) fun j hj => by
    rw [getD_set]
    unfold stG
    by_cases e : x.process.toNat = j
    · rw [if_pos ⟨e, by omega⟩, if_pos (by omega)]
    · rw [if_neg (fun h => e h.1), if_neg (by omega), if_neg (by omega), if_neg (by omega)]
  repeat' (first
      | (refine needI (by first | omega | (dsimp only; omega)) ?_; conv => whnf)
      | (refine arI trivial (by omega) ?_; conv => whnf)
      | (refine cmpT (by omega) ?_; conv => whnf)
      | (refine cmpF (by omega) ?_; conv => whnf)
      | fail)
  refine rowSetI _ rfl ?_
  rw [hst]
  conv => whnf
  refine cmpF (by omega) ?_
  conv => whnf
  refine WPc.loopF tt_ok mx_ok (fun z : Nat × Bool => z.1 ≤ r.send.length ∧ (z.2 = true ↔ ∀ j, j < z.1 → (bumpL c.faulty (r.send.take (j + 1))).getD (r.send.getD j 0).toNat 0 ≤ 1048576)) (fun z => [(12, .int .i64 (z.1 : Int)), (11, .bool z.2)]) (fun z => apM2 c r c.value (stN c r x) c.sent (bumpL c.faulty (r.send.take z.1))) (fun z => r.send.length - z.1) (0, true) ⟨Nat.zero_le _, iffT (fun j hj => by dsimp only at hj; omega)⟩ ?_; conv => whnf
  refine ⟨(Sub.id_ 400 rfl auto_ auto_), ?_⟩
  rintro ⟨k, b⟩ ⟨hk, hb⟩
  dsimp only at hk hb ⊢
  cases b
  · conv => whnf
    refine cmpI (fun g1 => ?_) (fun g1 => ?_) <;> conv => whnf
    · have hm := hse k (by omega)
      have hbb := bumpL_b (r.send.take k) c.faulty 1048576 (inR_all h.sent.2) (r.send.getD k 0).toNat
      have htl : (r.send.take k).length ≤ 60 := by rw [List.length_take]; omega
      have hup := bumpL_up (l := c.faulty) (ms := r.send) (k := k) (by omega)
      refine cmpF hcor ?_
      conv => whnf
      refine drawI (by decide +kernel) ?_
      conv => whnf
      refine needI (by omega) ?_
      rw [Int.toNat_natCast]
      conv => whnf
      refine needI (by omega) ?_
      conv => whnf
      refine arI trivial (by omega) ?_
      conv => whnf
      refine needI (by omega) ?_
      conv => whnf
      refine rowSetI _ rfl ?_
      rw [← hup]
      conv => whnf
      refine drawI (by decide +kernel) ?_
      conv => whnf
      repeat' (first
          | (refine needI (by first | omega | (dsimp only; omega)) ?_; conv => whnf)
          | (refine arI trivial (by omega) ?_; conv => whnf)
          | (refine cmpT (by omega) ?_; conv => whnf)
          | (refine cmpF (by omega) ?_; conv => whnf)
          | fail)
      exact ⟨(k + 1, false), (Sub.id_ 400 rfl auto_ auto_), ⟨by dsimp only; omega, iffF (fun hh => nIff hb (fun j hj => hh j (by omega)))⟩, by dsimp only; omega⟩
    · obtain rfl : k = r.send.length := by omega
      rw [List.take_length]
      have hap : ¬ apB c r x := by unfold apB; rw [if_neg hcor]; exact nIff hb
      refine ⟨?_, rfl⟩
      rw [decide_eq_false hap, apC_f hcor, if_pos hwr]
      rfl
  · conv => whnf
    refine cmpI (fun g1 => ?_) (fun g1 => ?_) <;> conv => whnf
    · have hm := hse k (by omega)
      have hbb := bumpL_b (r.send.take k) c.faulty 1048576 (inR_all h.sent.2) (r.send.getD k 0).toNat
      have htl : (r.send.take k).length ≤ 60 := by rw [List.length_take]; omega
      have hup := bumpL_up (l := c.faulty) (ms := r.send) (k := k) (by omega)
      refine cmpF hcor ?_
      conv => whnf
      refine drawI (by decide +kernel) ?_
      conv => whnf
      refine needI (by omega) ?_
      rw [Int.toNat_natCast]
      conv => whnf
      refine needI (by omega) ?_
      conv => whnf
      refine arI trivial (by omega) ?_
      conv => whnf
      refine needI (by omega) ?_
      conv => whnf
      refine rowSetI _ rfl ?_
      rw [← hup]
      conv => whnf
      refine drawI (by decide +kernel) ?_
      conv => whnf
      refine needI (by omega) ?_
      rw [Int.toNat_natCast]
      conv => whnf
      refine needI (by omega) ?_
      conv => whnf
      refine cmpI (fun g2 => ?_) (fun g2 => ?_) <;> conv => whnf
      · repeat' (first
            | (refine needI (by first | omega | (dsimp only; omega)) ?_; conv => whnf)
            | (refine arI trivial (by omega) ?_; conv => whnf)
            | (refine cmpT (by omega) ?_; conv => whnf)
            | (refine cmpF (by omega) ?_; conv => whnf)
            | fail)
        exact ⟨(k + 1, true), (Sub.id_ 400 rfl auto_ auto_), ⟨by dsimp only; omega, iffT (snd_up (hb.1 rfl) g2)⟩, by dsimp only; omega⟩
      · repeat' (first
            | (refine needI (by first | omega | (dsimp only; omega)) ?_; conv => whnf)
            | (refine arI trivial (by omega) ?_; conv => whnf)
            | (refine cmpT (by omega) ?_; conv => whnf)
            | (refine cmpF (by omega) ?_; conv => whnf)
            | fail)
        exact ⟨(k + 1, false), (Sub.id_ 400 rfl auto_ auto_), ⟨by dsimp only; omega, iffF (fun hh => g2 (hh k (by omega)))⟩, by dsimp only; omega⟩
    · obtain rfl : k = r.send.length := by omega
      rw [List.take_length]
      have hap : apB c r x := by unfold apB; rw [if_neg hcor]; exact hb.1 rfl
      refine ⟨?_, rfl⟩
      rw [decide_eq_true hap, apC_f hcor, if_pos hwr]
      rfl
theorem applyR1wt (p : Pro) (s : Siz) (c : Cfg) (x : Stp) (h : Rdy p s c) (he : enB p s c x false) (hk0 : (p.rules.getD x.rule.toNat rul0).kind = 1 ∨ (p.rules.getD x.rule.toNat rul0).kind = 4) (hwr0 : (p.rules.getD x.rule.toNat rul0).write ≠ -1) (hcor0 : x.process < c.correct) : PSpec Tryz.prog 135 [.agg (encP p), .agg (encC c), .agg (encX x)] (fun u => u = .tup [.agg (encC (apC c (p.rules.getD x.rule.toNat rul0) x)), .bool (decide (apB c (p.rules.getD x.rule.toNat rul0) x))]) := by
  have hle := bigP_le h.big
  have hc := wide_le h.wide
  obtain ⟨hin, hen⟩ := he
  have hR := valid_rule h.val (i := x.rule.toNat) (by omega)
  have hB := bigP_rule h.big (j := x.rule.toNat) (by omega)
  have hsn := h.vc.snl
  have hfa := h.vc.fal
  have hsta := h.vc.sta
  refine PSpec.intro tt_ok mx_ok Tryz.func135 rfl (by decide) ?_; (conv => whnf)
  refine boxP rfl ?_
  conv => whnf
  refine boxP rfl ?_
  conv => whnf
  refine boxP rfl ?_
  conv => whnf
  refine drawF (by decide +kernel) ?_
  conv => whnf
  refine needI (by omega) ?_
  generalize p.rules.getD x.rule.toNat rul0 = r at hen hR hB hk0 hwr0 ⊢
  have hwr := hwr0
  have hcor := hcor0
  have hbr := bigR_le hB
  have hrd := hR.read
  have hfit := hR.fit
  unfold fitB at hfit
  have hse := hR.send
  conv => whnf
  refine callLN 400 (lmC 1001 1002 1003 1004) (memC c) (cfgL c) (copyL c h.wide) (auto_) rfl rfl outC ?_
  conv => whnf
  have hpl : x.process.toNat < c.states.length := by omega
  have hpc : ((x.process.toNat : Nat) : Int) = x.process := by omega
  have k14 := hk0
  have hst : c.states.set x.process.toNat r.dst = stN c r x := st_of (by simp) fun j hj => by
    rw [getD_set]
    unfold stG
    by_cases e : x.process.toNat = j
    · rw [if_pos ⟨e, by omega⟩, if_pos (by omega)]
    · rw [if_neg (fun h => e h.1), if_neg (by omega), if_neg (by omega), if_neg (by omega)]
  repeat' (first
      | (refine needI (by first | omega | (dsimp only; omega)) ?_; conv => whnf)
      | (refine arI trivial (by omega) ?_; conv => whnf)
      | (refine cmpT (by omega) ?_; conv => whnf)
      | (refine cmpF (by omega) ?_; conv => whnf)
      | fail)
  refine rowSetI _ rfl ?_
  rw [hst]
  conv => whnf
  refine cmpT (by omega) ?_
  conv => whnf
  refine WPc.loopF tt_ok mx_ok (fun z : Nat × Bool => z.1 ≤ r.send.length ∧ (z.2 = true ↔ ∀ j, j < z.1 → (bumpL c.sent (r.send.take (j + 1))).getD (r.send.getD j 0).toNat 0 ≤ 1048576)) (fun z => [(12, .int .i64 (z.1 : Int)), (11, .bool z.2)]) (fun z => apM2 c r r.write (stN c r x) (bumpL c.sent (r.send.take z.1)) c.faulty) (fun z => r.send.length - z.1) (0, true) ⟨Nat.zero_le _, iffT (fun j hj => by dsimp only at hj; omega)⟩ ?_; conv => whnf
  refine ⟨(Sub.id_ 400 rfl auto_ auto_), ?_⟩
  rintro ⟨k, b⟩ ⟨hk, hb⟩
  dsimp only at hk hb ⊢
  cases b
  · conv => whnf
    refine cmpI (fun g1 => ?_) (fun g1 => ?_) <;> conv => whnf
    · have hm := hse k (by omega)
      have hbb := bumpL_b (r.send.take k) c.sent 1048576 (inR_all h.sent.1) (r.send.getD k 0).toNat
      have htl : (r.send.take k).length ≤ 60 := by rw [List.length_take]; omega
      have hup := bumpL_up (l := c.sent) (ms := r.send) (k := k) (by omega)
      refine cmpT hcor ?_
      conv => whnf
      refine drawI (by decide +kernel) ?_
      conv => whnf
      refine needI (by omega) ?_
      rw [Int.toNat_natCast]
      conv => whnf
      refine needI (by omega) ?_
      conv => whnf
      refine arI trivial (by omega) ?_
      conv => whnf
      refine needI (by omega) ?_
      conv => whnf
      refine rowSetI _ rfl ?_
      rw [← hup]
      conv => whnf
      refine drawI (by decide +kernel) ?_
      conv => whnf
      repeat' (first
          | (refine needI (by first | omega | (dsimp only; omega)) ?_; conv => whnf)
          | (refine arI trivial (by omega) ?_; conv => whnf)
          | (refine cmpT (by omega) ?_; conv => whnf)
          | (refine cmpF (by omega) ?_; conv => whnf)
          | fail)
      exact ⟨(k + 1, false), (Sub.id_ 400 rfl auto_ auto_), ⟨by dsimp only; omega, iffF (fun hh => nIff hb (fun j hj => hh j (by omega)))⟩, by dsimp only; omega⟩
    · obtain rfl : k = r.send.length := by omega
      rw [List.take_length]
      have hap : ¬ apB c r x := by unfold apB; rw [if_pos hcor]; exact nIff hb
      refine ⟨?_, rfl⟩
      rw [decide_eq_false hap, apC_t hcor, if_neg hwr]
      rfl
  · conv => whnf
    refine cmpI (fun g1 => ?_) (fun g1 => ?_) <;> conv => whnf
    · have hm := hse k (by omega)
      have hbb := bumpL_b (r.send.take k) c.sent 1048576 (inR_all h.sent.1) (r.send.getD k 0).toNat
      have htl : (r.send.take k).length ≤ 60 := by rw [List.length_take]; omega
      have hup := bumpL_up (l := c.sent) (ms := r.send) (k := k) (by omega)
      refine cmpT hcor ?_
      conv => whnf
      refine drawI (by decide +kernel) ?_
      conv => whnf
      refine needI (by omega) ?_
      rw [Int.toNat_natCast]
      conv => whnf
      refine needI (by omega) ?_
      conv => whnf
      refine arI trivial (by omega) ?_
      conv => whnf
      refine needI (by omega) ?_
      conv => whnf
      refine rowSetI _ rfl ?_
      rw [← hup]
      conv => whnf
      refine drawI (by decide +kernel) ?_
      conv => whnf
      refine needI (by omega) ?_
      rw [Int.toNat_natCast]
      conv => whnf
      refine needI (by omega) ?_
      conv => whnf
      refine cmpI (fun g2 => ?_) (fun g2 => ?_) <;> conv => whnf
      · repeat' (first
            | (refine needI (by first | omega | (dsimp only; omega)) ?_; conv => whnf)
            | (refine arI trivial (by omega) ?_; conv => whnf)
            | (refine cmpT (by omega) ?_; conv => whnf)
            | (refine cmpF (by omega) ?_; conv => whnf)
            | fail)
        exact ⟨(k + 1, true), (Sub.id_ 400 rfl auto_ auto_), ⟨by dsimp only; omega, iffT (snd_up (hb.1 rfl) g2)⟩, by dsimp only; omega⟩
      · repeat' (first
            | (refine needI (by first | omega | (dsimp only; omega)) ?_; conv => whnf)
            | (refine arI trivial (by omega) ?_; conv => whnf)
            | (refine cmpT (by omega) ?_; conv => whnf)
            | (refine cmpF (by omega) ?_; conv => whnf)
            | fail)
        exact ⟨(k + 1, false), (Sub.id_ 400 rfl auto_ auto_), ⟨by dsimp only; omega, iffF (fun hh => g2 (hh k (by omega)))⟩, by dsimp only; omega⟩
    · obtain rfl : k = r.send.length := by omega
      rw [List.take_length]
      have hap : apB c r x := by unfold apB; rw [if_pos hcor]; exact hb.1 rfl
      refine ⟨?_, rfl⟩
      rw [decide_eq_true hap, apC_t hcor, if_neg hwr]
      rfl
theorem applyR1wf (p : Pro) (s : Siz) (c : Cfg) (x : Stp) (h : Rdy p s c) (he : enB p s c x false) (hk0 : (p.rules.getD x.rule.toNat rul0).kind = 1 ∨ (p.rules.getD x.rule.toNat rul0).kind = 4) (hwr0 : (p.rules.getD x.rule.toNat rul0).write ≠ -1) (hcor0 : ¬ x.process < c.correct) : PSpec Tryz.prog 135 [.agg (encP p), .agg (encC c), .agg (encX x)] (fun u => u = .tup [.agg (encC (apC c (p.rules.getD x.rule.toNat rul0) x)), .bool (decide (apB c (p.rules.getD x.rule.toNat rul0) x))]) := by
  have hle := bigP_le h.big
  have hc := wide_le h.wide
  obtain ⟨hin, hen⟩ := he
  have hR := valid_rule h.val (i := x.rule.toNat) (by omega)
  have hB := bigP_rule h.big (j := x.rule.toNat) (by omega)
  have hsn := h.vc.snl
  have hfa := h.vc.fal
  have hsta := h.vc.sta
  refine PSpec.intro tt_ok mx_ok Tryz.func135 rfl (by decide) ?_; (conv => whnf)
  refine boxP rfl ?_
  conv => whnf
  refine boxP rfl ?_
  conv => whnf
  refine boxP rfl ?_
  conv => whnf
  refine drawF (by decide +kernel) ?_
  conv => whnf
  refine needI (by omega) ?_
  generalize p.rules.getD x.rule.toNat rul0 = r at hen hR hB hk0 hwr0 ⊢
  have hwr := hwr0
  have hcor := hcor0
  have hbr := bigR_le hB
  have hrd := hR.read
  have hfit := hR.fit
  unfold fitB at hfit
  have hse := hR.send
  conv => whnf
  refine callLN 400 (lmC 1001 1002 1003 1004) (memC c) (cfgL c) (copyL c h.wide) (auto_) rfl rfl outC ?_
  conv => whnf
  have hpl : x.process.toNat < c.states.length := by omega
  have hpc : ((x.process.toNat : Nat) : Int) = x.process := by omega
  have k14 := hk0
  have hst : c.states.set x.process.toNat r.dst = stN c r x := st_of (by simp) fun j hj => by
    rw [getD_set]
    unfold stG
    by_cases e : x.process.toNat = j
    · rw [if_pos ⟨e, by omega⟩, if_pos (by omega)]
    · rw [if_neg (fun h => e h.1), if_neg (by omega), if_neg (by omega), if_neg (by omega)]
  repeat' (first
      | (refine needI (by first | omega | (dsimp only; omega)) ?_; conv => whnf)
      | (refine arI trivial (by omega) ?_; conv => whnf)
      | (refine cmpT (by omega) ?_; conv => whnf)
      | (refine cmpF (by omega) ?_; conv => whnf)
      | fail)
  refine rowSetI _ rfl ?_
  rw [hst]
  conv => whnf
  refine cmpT (by omega) ?_
  conv => whnf
  refine WPc.loopF tt_ok mx_ok (fun z : Nat × Bool => z.1 ≤ r.send.length ∧ (z.2 = true ↔ ∀ j, j < z.1 → (bumpL c.faulty (r.send.take (j + 1))).getD (r.send.getD j 0).toNat 0 ≤ 1048576)) (fun z => [(12, .int .i64 (z.1 : Int)), (11, .bool z.2)]) (fun z => apM2 c r r.write (stN c r x) c.sent (bumpL c.faulty (r.send.take z.1))) (fun z => r.send.length - z.1) (0, true) ⟨Nat.zero_le _, iffT (fun j hj => by dsimp only at hj; omega)⟩ ?_; conv => whnf
  refine ⟨(Sub.id_ 400 rfl auto_ auto_), ?_⟩
  rintro ⟨k, b⟩ ⟨hk, hb⟩
  dsimp only at hk hb ⊢
  cases b
  · conv => whnf
    refine cmpI (fun g1 => ?_) (fun g1 => ?_) <;> conv => whnf
    · have hm := hse k (by omega)
      have hbb := bumpL_b (r.send.take k) c.faulty 1048576 (inR_all h.sent.2) (r.send.getD k 0).toNat
      have htl : (r.send.take k).length ≤ 60 := by rw [List.length_take]; omega
      have hup := bumpL_up (l := c.faulty) (ms := r.send) (k := k) (by omega)
      refine cmpF hcor ?_
      conv => whnf
      refine drawI (by decide +kernel) ?_
      conv => whnf
      refine needI (by omega) ?_
      rw [Int.toNat_natCast]
      conv => whnf
      refine needI (by omega) ?_
      conv => whnf
      refine arI trivial (by omega) ?_
      conv => whnf
      refine needI (by omega) ?_
      conv => whnf
      refine rowSetI _ rfl ?_
      rw [← hup]
      conv => whnf
      refine drawI (by decide +kernel) ?_
      conv => whnf
      repeat' (first
          | (refine needI (by first | omega | (dsimp only; omega)) ?_; conv => whnf)
          | (refine arI trivial (by omega) ?_; conv => whnf)
          | (refine cmpT (by omega) ?_; conv => whnf)
          | (refine cmpF (by omega) ?_; conv => whnf)
          | fail)
      exact ⟨(k + 1, false), (Sub.id_ 400 rfl auto_ auto_), ⟨by dsimp only; omega, iffF (fun hh => nIff hb (fun j hj => hh j (by omega)))⟩, by dsimp only; omega⟩
    · obtain rfl : k = r.send.length := by omega
      rw [List.take_length]
      have hap : ¬ apB c r x := by unfold apB; rw [if_neg hcor]; exact nIff hb
      refine ⟨?_, rfl⟩
      rw [decide_eq_false hap, apC_f hcor, if_neg hwr]
      rfl
  · conv => whnf
    refine cmpI (fun g1 => ?_) (fun g1 => ?_) <;> conv => whnf
    · have hm := hse k (by omega)
      have hbb := bumpL_b (r.send.take k) c.faulty 1048576 (inR_all h.sent.2) (r.send.getD k 0).toNat
      have htl : (r.send.take k).length ≤ 60 := by rw [List.length_take]; omega
      have hup := bumpL_up (l := c.faulty) (ms := r.send) (k := k) (by omega)
      refine cmpF hcor ?_
      conv => whnf
      refine drawI (by decide +kernel) ?_
      conv => whnf
      refine needI (by omega) ?_
      rw [Int.toNat_natCast]
      conv => whnf
      refine needI (by omega) ?_
      conv => whnf
      refine arI trivial (by omega) ?_
      conv => whnf
      refine needI (by omega) ?_
      conv => whnf
      refine rowSetI _ rfl ?_
      rw [← hup]
      conv => whnf
      refine drawI (by decide +kernel) ?_
      conv => whnf
      refine needI (by omega) ?_
      rw [Int.toNat_natCast]
      conv => whnf
      refine needI (by omega) ?_
      conv => whnf
      refine cmpI (fun g2 => ?_) (fun g2 => ?_) <;> conv => whnf
      · repeat' (first
            | (refine needI (by first | omega | (dsimp only; omega)) ?_; conv => whnf)
            | (refine arI trivial (by omega) ?_; conv => whnf)
            | (refine cmpT (by omega) ?_; conv => whnf)
            | (refine cmpF (by omega) ?_; conv => whnf)
            | fail)
        exact ⟨(k + 1, true), (Sub.id_ 400 rfl auto_ auto_), ⟨by dsimp only; omega, iffT (snd_up (hb.1 rfl) g2)⟩, by dsimp only; omega⟩
      · repeat' (first
            | (refine needI (by first | omega | (dsimp only; omega)) ?_; conv => whnf)
            | (refine arI trivial (by omega) ?_; conv => whnf)
            | (refine cmpT (by omega) ?_; conv => whnf)
            | (refine cmpF (by omega) ?_; conv => whnf)
            | fail)
        exact ⟨(k + 1, false), (Sub.id_ 400 rfl auto_ auto_), ⟨by dsimp only; omega, iffF (fun hh => g2 (hh k (by omega)))⟩, by dsimp only; omega⟩
    · obtain rfl : k = r.send.length := by omega
      rw [List.take_length]
      have hap : apB c r x := by unfold apB; rw [if_neg hcor]; exact hb.1 rfl
      refine ⟨?_, rfl⟩
      rw [decide_eq_true hap, apC_f hcor, if_neg hwr]
      rfl
theorem applyR2nt (p : Pro) (s : Siz) (c : Cfg) (x : Stp) (h : Rdy p s c) (he : enB p s c x false) (hk0 : (p.rules.getD x.rule.toNat rul0).kind = 2) (hwr0 : (p.rules.getD x.rule.toNat rul0).write = -1) (hcor0 : x.process < c.correct) : PSpec Tryz.prog 135 [.agg (encP p), .agg (encC c), .agg (encX x)] (fun u => u = .tup [.agg (encC (apC c (p.rules.getD x.rule.toNat rul0) x)), .bool (decide (apB c (p.rules.getD x.rule.toNat rul0) x))]) := by
  have hle := bigP_le h.big
  have hc := wide_le h.wide
  obtain ⟨hin, hen⟩ := he
  have hR := valid_rule h.val (i := x.rule.toNat) (by omega)
  have hB := bigP_rule h.big (j := x.rule.toNat) (by omega)
  have hsn := h.vc.snl
  have hfa := h.vc.fal
  have hsta := h.vc.sta
  refine PSpec.intro tt_ok mx_ok Tryz.func135 rfl (by decide) ?_; (conv => whnf)
  refine boxP rfl ?_
  conv => whnf
  refine boxP rfl ?_
  conv => whnf
  refine boxP rfl ?_
  conv => whnf
  refine drawF (by decide +kernel) ?_
  conv => whnf
  refine needI (by omega) ?_
  generalize p.rules.getD x.rule.toNat rul0 = r at hen hR hB hk0 hwr0 ⊢
  have hwr := hwr0
  have hcor := hcor0
  have hbr := bigR_le hB
  have hrd := hR.read
  have hfit := hR.fit
  unfold fitB at hfit
  have hse := hR.send
  conv => whnf
  refine callLN 400 (lmC 1001 1002 1003 1004) (memC c) (cfgL c) (copyL c h.wide) (auto_) rfl rfl outC ?_
  conv => whnf
  have hpl : x.process.toNat < c.states.length := by omega
  have hpc : ((x.process.toNat : Nat) : Int) = x.process := by omega
  have k25 : r.kind = 2 ∨ r.kind = 5 := .inl hk0
  obtain ⟨g1, g2, g3, g4⟩ := en_kin hen k25
  have hst : (c.states.set x.partner.toNat r.pto).set x.process.toNat r.dst = stN c r x := st_of (by simp) fun j hj => by
    rw [getD_set, getD_set, List.length_set]
    unfold stG
    by_cases e : x.process.toNat = j
    · rw [if_pos ⟨e, by omega⟩, if_pos (by omega)]
    · rw [if_neg (fun h => e h.1), if_neg (show ¬ (j : Int) = x.process by omega)]
      by_cases e2 : x.partner.toNat = j
      · rw [if_pos ⟨e2, by omega⟩, if_pos ⟨k25, by omega⟩]
      · rw [if_neg (fun h => e2 h.1), if_neg (fun h => e2 (by omega)), if_neg (by omega)]
  repeat' (first
      | (refine needI (by first | omega | (dsimp only; omega)) ?_; conv => whnf)
      | (refine arI trivial (by omega) ?_; conv => whnf)
      | (refine cmpT (by omega) ?_; conv => whnf)
      | (refine cmpF (by omega) ?_; conv => whnf)
      | fail)
  refine rowSetI _ rfl ?_
  conv => whnf
  refine needI (by omega) ?_
  rw [forceK_eq]
  dsimp only
  rw [putD_eq]
  refine ops_store rfl rfl rfl rfl rfl ?_
  rw [hst]
  conv => whnf
  refine cmpF (by omega) ?_
  conv => whnf
  refine WPc.loopF tt_ok mx_ok (fun z : Nat × Bool => z.1 ≤ r.send.length ∧ (z.2 = true ↔ ∀ j, j < z.1 → (bumpL c.sent (r.send.take (j + 1))).getD (r.send.getD j 0).toNat 0 ≤ 1048576)) (fun z => [(12, .int .i64 (z.1 : Int)), (11, .bool z.2)]) (fun z => apM2 c r c.value (stN c r x) (bumpL c.sent (r.send.take z.1)) c.faulty) (fun z => r.send.length - z.1) (0, true) ⟨Nat.zero_le _, iffT (fun j hj => by dsimp only at hj; omega)⟩ ?_; conv => whnf
  refine ⟨(Sub.id_ 400 rfl auto_ auto_), ?_⟩
  rintro ⟨k, b⟩ ⟨hk, hb⟩
  dsimp only at hk hb ⊢
  cases b
  · conv => whnf
    refine cmpI (fun g1 => ?_) (fun g1 => ?_) <;> conv => whnf
    · have hm := hse k (by omega)
      have hbb := bumpL_b (r.send.take k) c.sent 1048576 (inR_all h.sent.1) (r.send.getD k 0).toNat
      have htl : (r.send.take k).length ≤ 60 := by rw [List.length_take]; omega
      have hup := bumpL_up (l := c.sent) (ms := r.send) (k := k) (by omega)
      refine cmpT hcor ?_
      conv => whnf
      refine drawI (by decide +kernel) ?_
      conv => whnf
      refine needI (by omega) ?_
      rw [Int.toNat_natCast]
      conv => whnf
      refine needI (by omega) ?_
      conv => whnf
      refine arI trivial (by omega) ?_
      conv => whnf
      refine needI (by omega) ?_
      conv => whnf
      refine rowSetI _ rfl ?_
      rw [← hup]
      conv => whnf
      refine drawI (by decide +kernel) ?_
      conv => whnf
      repeat' (first
          | (refine needI (by first | omega | (dsimp only; omega)) ?_; conv => whnf)
          | (refine arI trivial (by omega) ?_; conv => whnf)
          | (refine cmpT (by omega) ?_; conv => whnf)
          | (refine cmpF (by omega) ?_; conv => whnf)
          | fail)
      exact ⟨(k + 1, false), (Sub.id_ 400 rfl auto_ auto_), ⟨by dsimp only; omega, iffF (fun hh => nIff hb (fun j hj => hh j (by omega)))⟩, by dsimp only; omega⟩
    · obtain rfl : k = r.send.length := by omega
      rw [List.take_length]
      have hap : ¬ apB c r x := by unfold apB; rw [if_pos hcor]; exact nIff hb
      refine ⟨?_, rfl⟩
      rw [decide_eq_false hap, apC_t hcor, if_pos hwr]
      rfl
  · conv => whnf
    refine cmpI (fun g1 => ?_) (fun g1 => ?_) <;> conv => whnf
    · have hm := hse k (by omega)
      have hbb := bumpL_b (r.send.take k) c.sent 1048576 (inR_all h.sent.1) (r.send.getD k 0).toNat
      have htl : (r.send.take k).length ≤ 60 := by rw [List.length_take]; omega
      have hup := bumpL_up (l := c.sent) (ms := r.send) (k := k) (by omega)
      refine cmpT hcor ?_
      conv => whnf
      refine drawI (by decide +kernel) ?_
      conv => whnf
      refine needI (by omega) ?_
      rw [Int.toNat_natCast]
      conv => whnf
      refine needI (by omega) ?_
      conv => whnf
      refine arI trivial (by omega) ?_
      conv => whnf
      refine needI (by omega) ?_
      conv => whnf
      refine rowSetI _ rfl ?_
      rw [← hup]
      conv => whnf
      refine drawI (by decide +kernel) ?_
      conv => whnf
      refine needI (by omega) ?_
      rw [Int.toNat_natCast]
      conv => whnf
      refine needI (by omega) ?_
      conv => whnf
      refine cmpI (fun g2 => ?_) (fun g2 => ?_) <;> conv => whnf
      · repeat' (first
            | (refine needI (by first | omega | (dsimp only; omega)) ?_; conv => whnf)
            | (refine arI trivial (by omega) ?_; conv => whnf)
            | (refine cmpT (by omega) ?_; conv => whnf)
            | (refine cmpF (by omega) ?_; conv => whnf)
            | fail)
        exact ⟨(k + 1, true), (Sub.id_ 400 rfl auto_ auto_), ⟨by dsimp only; omega, iffT (snd_up (hb.1 rfl) g2)⟩, by dsimp only; omega⟩
      · repeat' (first
            | (refine needI (by first | omega | (dsimp only; omega)) ?_; conv => whnf)
            | (refine arI trivial (by omega) ?_; conv => whnf)
            | (refine cmpT (by omega) ?_; conv => whnf)
            | (refine cmpF (by omega) ?_; conv => whnf)
            | fail)
        exact ⟨(k + 1, false), (Sub.id_ 400 rfl auto_ auto_), ⟨by dsimp only; omega, iffF (fun hh => g2 (hh k (by omega)))⟩, by dsimp only; omega⟩
    · obtain rfl : k = r.send.length := by omega
      rw [List.take_length]
      have hap : apB c r x := by unfold apB; rw [if_pos hcor]; exact hb.1 rfl
      refine ⟨?_, rfl⟩
      rw [decide_eq_true hap, apC_t hcor, if_pos hwr]
      rfl
theorem applyR2nf (p : Pro) (s : Siz) (c : Cfg) (x : Stp) (h : Rdy p s c) (he : enB p s c x false) (hk0 : (p.rules.getD x.rule.toNat rul0).kind = 2) (hwr0 : (p.rules.getD x.rule.toNat rul0).write = -1) (hcor0 : ¬ x.process < c.correct) : PSpec Tryz.prog 135 [.agg (encP p), .agg (encC c), .agg (encX x)] (fun u => u = .tup [.agg (encC (apC c (p.rules.getD x.rule.toNat rul0) x)), .bool (decide (apB c (p.rules.getD x.rule.toNat rul0) x))]) := by
  have hle := bigP_le h.big
  have hc := wide_le h.wide
  obtain ⟨hin, hen⟩ := he
  have hR := valid_rule h.val (i := x.rule.toNat) (by omega)
  have hB := bigP_rule h.big (j := x.rule.toNat) (by omega)
  have hsn := h.vc.snl
  have hfa := h.vc.fal
  have hsta := h.vc.sta
  refine PSpec.intro tt_ok mx_ok Tryz.func135 rfl (by decide) ?_; (conv => whnf)
  refine boxP rfl ?_
  conv => whnf
  refine boxP rfl ?_
  conv => whnf
  refine boxP rfl ?_
  conv => whnf
  refine drawF (by decide +kernel) ?_
  conv => whnf
  refine needI (by omega) ?_
  generalize p.rules.getD x.rule.toNat rul0 = r at hen hR hB hk0 hwr0 ⊢
  have hwr := hwr0
  have hcor := hcor0
  have hbr := bigR_le hB
  have hrd := hR.read
  have hfit := hR.fit
  unfold fitB at hfit
  have hse := hR.send
  conv => whnf
  refine callLN 400 (lmC 1001 1002 1003 1004) (memC c) (cfgL c) (copyL c h.wide) (auto_) rfl rfl outC ?_
  conv => whnf
  have hpl : x.process.toNat < c.states.length := by omega
  have hpc : ((x.process.toNat : Nat) : Int) = x.process := by omega
  have k25 : r.kind = 2 ∨ r.kind = 5 := .inl hk0
  obtain ⟨g1, g2, g3, g4⟩ := en_kin hen k25
  have hst : (c.states.set x.partner.toNat r.pto).set x.process.toNat r.dst = stN c r x := st_of (by simp) fun j hj => by
    rw [getD_set, getD_set, List.length_set]
    unfold stG
    by_cases e : x.process.toNat = j
    · rw [if_pos ⟨e, by omega⟩, if_pos (by omega)]
    · rw [if_neg (fun h => e h.1), if_neg (show ¬ (j : Int) = x.process by omega)]
      by_cases e2 : x.partner.toNat = j
      · rw [if_pos ⟨e2, by omega⟩, if_pos ⟨k25, by omega⟩]
      · rw [if_neg (fun h => e2 h.1), if_neg (fun h => e2 (by omega)), if_neg (by omega)]
  repeat' (first
      | (refine needI (by first | omega | (dsimp only; omega)) ?_; conv => whnf)
      | (refine arI trivial (by omega) ?_; conv => whnf)
      | (refine cmpT (by omega) ?_; conv => whnf)
      | (refine cmpF (by omega) ?_; conv => whnf)
      | fail)
  refine rowSetI _ rfl ?_
  conv => whnf
  refine needI (by omega) ?_
  rw [forceK_eq]
  dsimp only
  rw [putD_eq]
  refine ops_store rfl rfl rfl rfl rfl ?_
  rw [hst]
  conv => whnf
  refine cmpF (by omega) ?_
  conv => whnf
  refine WPc.loopF tt_ok mx_ok (fun z : Nat × Bool => z.1 ≤ r.send.length ∧ (z.2 = true ↔ ∀ j, j < z.1 → (bumpL c.faulty (r.send.take (j + 1))).getD (r.send.getD j 0).toNat 0 ≤ 1048576)) (fun z => [(12, .int .i64 (z.1 : Int)), (11, .bool z.2)]) (fun z => apM2 c r c.value (stN c r x) c.sent (bumpL c.faulty (r.send.take z.1))) (fun z => r.send.length - z.1) (0, true) ⟨Nat.zero_le _, iffT (fun j hj => by dsimp only at hj; omega)⟩ ?_; conv => whnf
  refine ⟨(Sub.id_ 400 rfl auto_ auto_), ?_⟩
  rintro ⟨k, b⟩ ⟨hk, hb⟩
  dsimp only at hk hb ⊢
  cases b
  · conv => whnf
    refine cmpI (fun g1 => ?_) (fun g1 => ?_) <;> conv => whnf
    · have hm := hse k (by omega)
      have hbb := bumpL_b (r.send.take k) c.faulty 1048576 (inR_all h.sent.2) (r.send.getD k 0).toNat
      have htl : (r.send.take k).length ≤ 60 := by rw [List.length_take]; omega
      have hup := bumpL_up (l := c.faulty) (ms := r.send) (k := k) (by omega)
      refine cmpF hcor ?_
      conv => whnf
      refine drawI (by decide +kernel) ?_
      conv => whnf
      refine needI (by omega) ?_
      rw [Int.toNat_natCast]
      conv => whnf
      refine needI (by omega) ?_
      conv => whnf
      refine arI trivial (by omega) ?_
      conv => whnf
      refine needI (by omega) ?_
      conv => whnf
      refine rowSetI _ rfl ?_
      rw [← hup]
      conv => whnf
      refine drawI (by decide +kernel) ?_
      conv => whnf
      repeat' (first
          | (refine needI (by first | omega | (dsimp only; omega)) ?_; conv => whnf)
          | (refine arI trivial (by omega) ?_; conv => whnf)
          | (refine cmpT (by omega) ?_; conv => whnf)
          | (refine cmpF (by omega) ?_; conv => whnf)
          | fail)
      exact ⟨(k + 1, false), (Sub.id_ 400 rfl auto_ auto_), ⟨by dsimp only; omega, iffF (fun hh => nIff hb (fun j hj => hh j (by omega)))⟩, by dsimp only; omega⟩
    · obtain rfl : k = r.send.length := by omega
      rw [List.take_length]
      have hap : ¬ apB c r x := by unfold apB; rw [if_neg hcor]; exact nIff hb
      refine ⟨?_, rfl⟩
      rw [decide_eq_false hap, apC_f hcor, if_pos hwr]
      rfl
  · conv => whnf
    refine cmpI (fun g1 => ?_) (fun g1 => ?_) <;> conv => whnf
    · have hm := hse k (by omega)
      have hbb := bumpL_b (r.send.take k) c.faulty 1048576 (inR_all h.sent.2) (r.send.getD k 0).toNat
      have htl : (r.send.take k).length ≤ 60 := by rw [List.length_take]; omega
      have hup := bumpL_up (l := c.faulty) (ms := r.send) (k := k) (by omega)
      refine cmpF hcor ?_
      conv => whnf
      refine drawI (by decide +kernel) ?_
      conv => whnf
      refine needI (by omega) ?_
      rw [Int.toNat_natCast]
      conv => whnf
      refine needI (by omega) ?_
      conv => whnf
      refine arI trivial (by omega) ?_
      conv => whnf
      refine needI (by omega) ?_
      conv => whnf
      refine rowSetI _ rfl ?_
      rw [← hup]
      conv => whnf
      refine drawI (by decide +kernel) ?_
      conv => whnf
      refine needI (by omega) ?_
      rw [Int.toNat_natCast]
      conv => whnf
      refine needI (by omega) ?_
      conv => whnf
      refine cmpI (fun g2 => ?_) (fun g2 => ?_) <;> conv => whnf
      · repeat' (first
            | (refine needI (by first | omega | (dsimp only; omega)) ?_; conv => whnf)
            | (refine arI trivial (by omega) ?_; conv => whnf)
            | (refine cmpT (by omega) ?_; conv => whnf)
            | (refine cmpF (by omega) ?_; conv => whnf)
            | fail)
        exact ⟨(k + 1, true), (Sub.id_ 400 rfl auto_ auto_), ⟨by dsimp only; omega, iffT (snd_up (hb.1 rfl) g2)⟩, by dsimp only; omega⟩
      · repeat' (first
            | (refine needI (by first | omega | (dsimp only; omega)) ?_; conv => whnf)
            | (refine arI trivial (by omega) ?_; conv => whnf)
            | (refine cmpT (by omega) ?_; conv => whnf)
            | (refine cmpF (by omega) ?_; conv => whnf)
            | fail)
        exact ⟨(k + 1, false), (Sub.id_ 400 rfl auto_ auto_), ⟨by dsimp only; omega, iffF (fun hh => g2 (hh k (by omega)))⟩, by dsimp only; omega⟩
    · obtain rfl : k = r.send.length := by omega
      rw [List.take_length]
      have hap : apB c r x := by unfold apB; rw [if_neg hcor]; exact hb.1 rfl
      refine ⟨?_, rfl⟩
      rw [decide_eq_true hap, apC_f hcor, if_pos hwr]
      rfl
theorem applyR2wt (p : Pro) (s : Siz) (c : Cfg) (x : Stp) (h : Rdy p s c) (he : enB p s c x false) (hk0 : (p.rules.getD x.rule.toNat rul0).kind = 2) (hwr0 : (p.rules.getD x.rule.toNat rul0).write ≠ -1) (hcor0 : x.process < c.correct) : PSpec Tryz.prog 135 [.agg (encP p), .agg (encC c), .agg (encX x)] (fun u => u = .tup [.agg (encC (apC c (p.rules.getD x.rule.toNat rul0) x)), .bool (decide (apB c (p.rules.getD x.rule.toNat rul0) x))]) := by
  have hle := bigP_le h.big
  have hc := wide_le h.wide
  obtain ⟨hin, hen⟩ := he
  have hR := valid_rule h.val (i := x.rule.toNat) (by omega)
  have hB := bigP_rule h.big (j := x.rule.toNat) (by omega)
  have hsn := h.vc.snl
  have hfa := h.vc.fal
  have hsta := h.vc.sta
  refine PSpec.intro tt_ok mx_ok Tryz.func135 rfl (by decide) ?_; (conv => whnf)
  refine boxP rfl ?_
  conv => whnf
  refine boxP rfl ?_
  conv => whnf
  refine boxP rfl ?_
  conv => whnf
  refine drawF (by decide +kernel) ?_
  conv => whnf
  refine needI (by omega) ?_
  generalize p.rules.getD x.rule.toNat rul0 = r at hen hR hB hk0 hwr0 ⊢
  have hwr := hwr0
  have hcor := hcor0
  have hbr := bigR_le hB
  have hrd := hR.read
  have hfit := hR.fit
  unfold fitB at hfit
  have hse := hR.send
  conv => whnf
  refine callLN 400 (lmC 1001 1002 1003 1004) (memC c) (cfgL c) (copyL c h.wide) (auto_) rfl rfl outC ?_
  conv => whnf
  have hpl : x.process.toNat < c.states.length := by omega
  have hpc : ((x.process.toNat : Nat) : Int) = x.process := by omega
  have k25 : r.kind = 2 ∨ r.kind = 5 := .inl hk0
  obtain ⟨g1, g2, g3, g4⟩ := en_kin hen k25
  have hst : (c.states.set x.partner.toNat r.pto).set x.process.toNat r.dst = stN c r x := st_of (by simp) fun j hj => by
    rw [getD_set, getD_set, List.length_set]
    unfold stG
    by_cases e : x.process.toNat = j
    · rw [if_pos ⟨e, by omega⟩, if_pos (by omega)]
    · rw [if_neg (fun h => e h.1), if_neg (show ¬ (j : Int) = x.process by omega)]
      by_cases e2 : x.partner.toNat = j
      · rw [if_pos ⟨e2, by omega⟩, if_pos ⟨k25, by omega⟩]
      · rw [if_neg (fun h => e2 h.1), if_neg (fun h => e2 (by omega)), if_neg (by omega)]
  repeat' (first
      | (refine needI (by first | omega | (dsimp only; omega)) ?_; conv => whnf)
      | (refine arI trivial (by omega) ?_; conv => whnf)
      | (refine cmpT (by omega) ?_; conv => whnf)
      | (refine cmpF (by omega) ?_; conv => whnf)
      | fail)
  refine rowSetI _ rfl ?_
  conv => whnf
  refine needI (by omega) ?_
  rw [forceK_eq]
  dsimp only
  rw [putD_eq]
  refine ops_store rfl rfl rfl rfl rfl ?_
  rw [hst]
  conv => whnf
  refine cmpT (by omega) ?_
  conv => whnf
  refine WPc.loopF tt_ok mx_ok (fun z : Nat × Bool => z.1 ≤ r.send.length ∧ (z.2 = true ↔ ∀ j, j < z.1 → (bumpL c.sent (r.send.take (j + 1))).getD (r.send.getD j 0).toNat 0 ≤ 1048576)) (fun z => [(12, .int .i64 (z.1 : Int)), (11, .bool z.2)]) (fun z => apM2 c r r.write (stN c r x) (bumpL c.sent (r.send.take z.1)) c.faulty) (fun z => r.send.length - z.1) (0, true) ⟨Nat.zero_le _, iffT (fun j hj => by dsimp only at hj; omega)⟩ ?_; conv => whnf
  refine ⟨(Sub.id_ 400 rfl auto_ auto_), ?_⟩
  rintro ⟨k, b⟩ ⟨hk, hb⟩
  dsimp only at hk hb ⊢
  cases b
  · conv => whnf
    refine cmpI (fun g1 => ?_) (fun g1 => ?_) <;> conv => whnf
    · have hm := hse k (by omega)
      have hbb := bumpL_b (r.send.take k) c.sent 1048576 (inR_all h.sent.1) (r.send.getD k 0).toNat
      have htl : (r.send.take k).length ≤ 60 := by rw [List.length_take]; omega
      have hup := bumpL_up (l := c.sent) (ms := r.send) (k := k) (by omega)
      refine cmpT hcor ?_
      conv => whnf
      refine drawI (by decide +kernel) ?_
      conv => whnf
      refine needI (by omega) ?_
      rw [Int.toNat_natCast]
      conv => whnf
      refine needI (by omega) ?_
      conv => whnf
      refine arI trivial (by omega) ?_
      conv => whnf
      refine needI (by omega) ?_
      conv => whnf
      refine rowSetI _ rfl ?_
      rw [← hup]
      conv => whnf
      refine drawI (by decide +kernel) ?_
      conv => whnf
      repeat' (first
          | (refine needI (by first | omega | (dsimp only; omega)) ?_; conv => whnf)
          | (refine arI trivial (by omega) ?_; conv => whnf)
          | (refine cmpT (by omega) ?_; conv => whnf)
          | (refine cmpF (by omega) ?_; conv => whnf)
          | fail)
      exact ⟨(k + 1, false), (Sub.id_ 400 rfl auto_ auto_), ⟨by dsimp only; omega, iffF (fun hh => nIff hb (fun j hj => hh j (by omega)))⟩, by dsimp only; omega⟩
    · obtain rfl : k = r.send.length := by omega
      rw [List.take_length]
      have hap : ¬ apB c r x := by unfold apB; rw [if_pos hcor]; exact nIff hb
      refine ⟨?_, rfl⟩
      rw [decide_eq_false hap, apC_t hcor, if_neg hwr]
      rfl
  · conv => whnf
    refine cmpI (fun g1 => ?_) (fun g1 => ?_) <;> conv => whnf
    · have hm := hse k (by omega)
      have hbb := bumpL_b (r.send.take k) c.sent 1048576 (inR_all h.sent.1) (r.send.getD k 0).toNat
      have htl : (r.send.take k).length ≤ 60 := by rw [List.length_take]; omega
      have hup := bumpL_up (l := c.sent) (ms := r.send) (k := k) (by omega)
      refine cmpT hcor ?_
      conv => whnf
      refine drawI (by decide +kernel) ?_
      conv => whnf
      refine needI (by omega) ?_
      rw [Int.toNat_natCast]
      conv => whnf
      refine needI (by omega) ?_
      conv => whnf
      refine arI trivial (by omega) ?_
      conv => whnf
      refine needI (by omega) ?_
      conv => whnf
      refine rowSetI _ rfl ?_
      rw [← hup]
      conv => whnf
      refine drawI (by decide +kernel) ?_
      conv => whnf
      refine needI (by omega) ?_
      rw [Int.toNat_natCast]
      conv => whnf
      refine needI (by omega) ?_
      conv => whnf
      refine cmpI (fun g2 => ?_) (fun g2 => ?_) <;> conv => whnf
      · repeat' (first
            | (refine needI (by first | omega | (dsimp only; omega)) ?_; conv => whnf)
            | (refine arI trivial (by omega) ?_; conv => whnf)
            | (refine cmpT (by omega) ?_; conv => whnf)
            | (refine cmpF (by omega) ?_; conv => whnf)
            | fail)
        exact ⟨(k + 1, true), (Sub.id_ 400 rfl auto_ auto_), ⟨by dsimp only; omega, iffT (snd_up (hb.1 rfl) g2)⟩, by dsimp only; omega⟩
      · repeat' (first
            | (refine needI (by first | omega | (dsimp only; omega)) ?_; conv => whnf)
            | (refine arI trivial (by omega) ?_; conv => whnf)
            | (refine cmpT (by omega) ?_; conv => whnf)
            | (refine cmpF (by omega) ?_; conv => whnf)
            | fail)
        exact ⟨(k + 1, false), (Sub.id_ 400 rfl auto_ auto_), ⟨by dsimp only; omega, iffF (fun hh => g2 (hh k (by omega)))⟩, by dsimp only; omega⟩
    · obtain rfl : k = r.send.length := by omega
      rw [List.take_length]
      have hap : apB c r x := by unfold apB; rw [if_pos hcor]; exact hb.1 rfl
      refine ⟨?_, rfl⟩
      rw [decide_eq_true hap, apC_t hcor, if_neg hwr]
      rfl
theorem applyR2wf (p : Pro) (s : Siz) (c : Cfg) (x : Stp) (h : Rdy p s c) (he : enB p s c x false) (hk0 : (p.rules.getD x.rule.toNat rul0).kind = 2) (hwr0 : (p.rules.getD x.rule.toNat rul0).write ≠ -1) (hcor0 : ¬ x.process < c.correct) : PSpec Tryz.prog 135 [.agg (encP p), .agg (encC c), .agg (encX x)] (fun u => u = .tup [.agg (encC (apC c (p.rules.getD x.rule.toNat rul0) x)), .bool (decide (apB c (p.rules.getD x.rule.toNat rul0) x))]) := by
  have hle := bigP_le h.big
  have hc := wide_le h.wide
  obtain ⟨hin, hen⟩ := he
  have hR := valid_rule h.val (i := x.rule.toNat) (by omega)
  have hB := bigP_rule h.big (j := x.rule.toNat) (by omega)
  have hsn := h.vc.snl
  have hfa := h.vc.fal
  have hsta := h.vc.sta
  refine PSpec.intro tt_ok mx_ok Tryz.func135 rfl (by decide) ?_; (conv => whnf)
  refine boxP rfl ?_
  conv => whnf
  refine boxP rfl ?_
  conv => whnf
  refine boxP rfl ?_
  conv => whnf
  refine drawF (by decide +kernel) ?_
  conv => whnf
  refine needI (by omega) ?_
  generalize p.rules.getD x.rule.toNat rul0 = r at hen hR hB hk0 hwr0 ⊢
  have hwr := hwr0
  have hcor := hcor0
  have hbr := bigR_le hB
  have hrd := hR.read
  have hfit := hR.fit
  unfold fitB at hfit
  have hse := hR.send
  conv => whnf
  refine callLN 400 (lmC 1001 1002 1003 1004) (memC c) (cfgL c) (copyL c h.wide) (auto_) rfl rfl outC ?_
  conv => whnf
  have hpl : x.process.toNat < c.states.length := by omega
  have hpc : ((x.process.toNat : Nat) : Int) = x.process := by omega
  have k25 : r.kind = 2 ∨ r.kind = 5 := .inl hk0
  obtain ⟨g1, g2, g3, g4⟩ := en_kin hen k25
  have hst : (c.states.set x.partner.toNat r.pto).set x.process.toNat r.dst = stN c r x := st_of (by simp) fun j hj => by
    rw [getD_set, getD_set, List.length_set]
    unfold stG
    by_cases e : x.process.toNat = j
    · rw [if_pos ⟨e, by omega⟩, if_pos (by omega)]
    · rw [if_neg (fun h => e h.1), if_neg (show ¬ (j : Int) = x.process by omega)]
      by_cases e2 : x.partner.toNat = j
      · rw [if_pos ⟨e2, by omega⟩, if_pos ⟨k25, by omega⟩]
      · rw [if_neg (fun h => e2 h.1), if_neg (fun h => e2 (by omega)), if_neg (by omega)]
  repeat' (first
      | (refine needI (by first | omega | (dsimp only; omega)) ?_; conv => whnf)
      | (refine arI trivial (by omega) ?_; conv => whnf)
      | (refine cmpT (by omega) ?_; conv => whnf)
      | (refine cmpF (by omega) ?_; conv => whnf)
      | fail)
  refine rowSetI _ rfl ?_
  conv => whnf
  refine needI (by omega) ?_
  rw [forceK_eq]
  dsimp only
  rw [putD_eq]
  refine ops_store rfl rfl rfl rfl rfl ?_
  rw [hst]
  conv => whnf
  refine cmpT (by omega) ?_
  conv => whnf
  refine WPc.loopF tt_ok mx_ok (fun z : Nat × Bool => z.1 ≤ r.send.length ∧ (z.2 = true ↔ ∀ j, j < z.1 → (bumpL c.faulty (r.send.take (j + 1))).getD (r.send.getD j 0).toNat 0 ≤ 1048576)) (fun z => [(12, .int .i64 (z.1 : Int)), (11, .bool z.2)]) (fun z => apM2 c r r.write (stN c r x) c.sent (bumpL c.faulty (r.send.take z.1))) (fun z => r.send.length - z.1) (0, true) ⟨Nat.zero_le _, iffT (fun j hj => by dsimp only at hj; omega)⟩ ?_; conv => whnf
  refine ⟨(Sub.id_ 400 rfl auto_ auto_), ?_⟩
  rintro ⟨k, b⟩ ⟨hk, hb⟩
  dsimp only at hk hb ⊢
  cases b
  · conv => whnf
    refine cmpI (fun g1 => ?_) (fun g1 => ?_) <;> conv => whnf
    · have hm := hse k (by omega)
      have hbb := bumpL_b (r.send.take k) c.faulty 1048576 (inR_all h.sent.2) (r.send.getD k 0).toNat
      have htl : (r.send.take k).length ≤ 60 := by rw [List.length_take]; omega
      have hup := bumpL_up (l := c.faulty) (ms := r.send) (k := k) (by omega)
      refine cmpF hcor ?_
      conv => whnf
      refine drawI (by decide +kernel) ?_
      conv => whnf
      refine needI (by omega) ?_
      rw [Int.toNat_natCast]
      conv => whnf
      refine needI (by omega) ?_
      conv => whnf
      refine arI trivial (by omega) ?_
      conv => whnf
      refine needI (by omega) ?_
      conv => whnf
      refine rowSetI _ rfl ?_
      rw [← hup]
      conv => whnf
      refine drawI (by decide +kernel) ?_
      conv => whnf
      repeat' (first
          | (refine needI (by first | omega | (dsimp only; omega)) ?_; conv => whnf)
          | (refine arI trivial (by omega) ?_; conv => whnf)
          | (refine cmpT (by omega) ?_; conv => whnf)
          | (refine cmpF (by omega) ?_; conv => whnf)
          | fail)
      exact ⟨(k + 1, false), (Sub.id_ 400 rfl auto_ auto_), ⟨by dsimp only; omega, iffF (fun hh => nIff hb (fun j hj => hh j (by omega)))⟩, by dsimp only; omega⟩
    · obtain rfl : k = r.send.length := by omega
      rw [List.take_length]
      have hap : ¬ apB c r x := by unfold apB; rw [if_neg hcor]; exact nIff hb
      refine ⟨?_, rfl⟩
      rw [decide_eq_false hap, apC_f hcor, if_neg hwr]
      rfl
  · conv => whnf
    refine cmpI (fun g1 => ?_) (fun g1 => ?_) <;> conv => whnf
    · have hm := hse k (by omega)
      have hbb := bumpL_b (r.send.take k) c.faulty 1048576 (inR_all h.sent.2) (r.send.getD k 0).toNat
      have htl : (r.send.take k).length ≤ 60 := by rw [List.length_take]; omega
      have hup := bumpL_up (l := c.faulty) (ms := r.send) (k := k) (by omega)
      refine cmpF hcor ?_
      conv => whnf
      refine drawI (by decide +kernel) ?_
      conv => whnf
      refine needI (by omega) ?_
      rw [Int.toNat_natCast]
      conv => whnf
      refine needI (by omega) ?_
      conv => whnf
      refine arI trivial (by omega) ?_
      conv => whnf
      refine needI (by omega) ?_
      conv => whnf
      refine rowSetI _ rfl ?_
      rw [← hup]
      conv => whnf
      refine drawI (by decide +kernel) ?_
      conv => whnf
      refine needI (by omega) ?_
      rw [Int.toNat_natCast]
      conv => whnf
      refine needI (by omega) ?_
      conv => whnf
      refine cmpI (fun g2 => ?_) (fun g2 => ?_) <;> conv => whnf
      · repeat' (first
            | (refine needI (by first | omega | (dsimp only; omega)) ?_; conv => whnf)
            | (refine arI trivial (by omega) ?_; conv => whnf)
            | (refine cmpT (by omega) ?_; conv => whnf)
            | (refine cmpF (by omega) ?_; conv => whnf)
            | fail)
        exact ⟨(k + 1, true), (Sub.id_ 400 rfl auto_ auto_), ⟨by dsimp only; omega, iffT (snd_up (hb.1 rfl) g2)⟩, by dsimp only; omega⟩
      · repeat' (first
            | (refine needI (by first | omega | (dsimp only; omega)) ?_; conv => whnf)
            | (refine arI trivial (by omega) ?_; conv => whnf)
            | (refine cmpT (by omega) ?_; conv => whnf)
            | (refine cmpF (by omega) ?_; conv => whnf)
            | fail)
        exact ⟨(k + 1, false), (Sub.id_ 400 rfl auto_ auto_), ⟨by dsimp only; omega, iffF (fun hh => g2 (hh k (by omega)))⟩, by dsimp only; omega⟩
    · obtain rfl : k = r.send.length := by omega
      rw [List.take_length]
      have hap : apB c r x := by unfold apB; rw [if_neg hcor]; exact hb.1 rfl
      refine ⟨?_, rfl⟩
      rw [decide_eq_true hap, apC_f hcor, if_neg hwr]
      rfl
theorem applyR5nt (p : Pro) (s : Siz) (c : Cfg) (x : Stp) (h : Rdy p s c) (he : enB p s c x false) (hk0 : (p.rules.getD x.rule.toNat rul0).kind = 5) (hwr0 : (p.rules.getD x.rule.toNat rul0).write = -1) (hcor0 : x.process < c.correct) : PSpec Tryz.prog 135 [.agg (encP p), .agg (encC c), .agg (encX x)] (fun u => u = .tup [.agg (encC (apC c (p.rules.getD x.rule.toNat rul0) x)), .bool (decide (apB c (p.rules.getD x.rule.toNat rul0) x))]) := by
  have hle := bigP_le h.big
  have hc := wide_le h.wide
  obtain ⟨hin, hen⟩ := he
  have hR := valid_rule h.val (i := x.rule.toNat) (by omega)
  have hB := bigP_rule h.big (j := x.rule.toNat) (by omega)
  have hsn := h.vc.snl
  have hfa := h.vc.fal
  have hsta := h.vc.sta
  refine PSpec.intro tt_ok mx_ok Tryz.func135 rfl (by decide) ?_; (conv => whnf)
  refine boxP rfl ?_
  conv => whnf
  refine boxP rfl ?_
  conv => whnf
  refine boxP rfl ?_
  conv => whnf
  refine drawF (by decide +kernel) ?_
  conv => whnf
  refine needI (by omega) ?_
  generalize p.rules.getD x.rule.toNat rul0 = r at hen hR hB hk0 hwr0 ⊢
  have hwr := hwr0
  have hcor := hcor0
  have hbr := bigR_le hB
  have hrd := hR.read
  have hfit := hR.fit
  unfold fitB at hfit
  have hse := hR.send
  conv => whnf
  refine callLN 400 (lmC 1001 1002 1003 1004) (memC c) (cfgL c) (copyL c h.wide) (auto_) rfl rfl outC ?_
  conv => whnf
  have hpl : x.process.toNat < c.states.length := by omega
  have hpc : ((x.process.toNat : Nat) : Int) = x.process := by omega
  have k25 : r.kind = 2 ∨ r.kind = 5 := .inr hk0
  obtain ⟨g1, g2, g3, g4⟩ := en_kin hen k25
  have hst : (c.states.set x.partner.toNat r.pto).set x.process.toNat r.dst = stN c r x := st_of (by simp) fun j hj => by
    rw [getD_set, getD_set, List.length_set]
    unfold stG
    by_cases e : x.process.toNat = j
    · rw [if_pos ⟨e, by omega⟩, if_pos (by omega)]
    · rw [if_neg (fun h => e h.1), if_neg (show ¬ (j : Int) = x.process by omega)]
      by_cases e2 : x.partner.toNat = j
      · rw [if_pos ⟨e2, by omega⟩, if_pos ⟨k25, by omega⟩]
      · rw [if_neg (fun h => e2 h.1), if_neg (fun h => e2 (by omega)), if_neg (by omega)]
  repeat' (first
      | (refine needI (by first | omega | (dsimp only; omega)) ?_; conv => whnf)
      | (refine arI trivial (by omega) ?_; conv => whnf)
      | (refine cmpT (by omega) ?_; conv => whnf)
      | (refine cmpF (by omega) ?_; conv => whnf)
      | fail)
  refine rowSetI _ rfl ?_
  conv => whnf
  refine needI (by omega) ?_
  rw [forceK_eq]
  dsimp only
  rw [putD_eq]
  refine ops_store rfl rfl rfl rfl rfl ?_
  rw [hst]
  conv => whnf
  refine cmpF (by omega) ?_
  conv => whnf
  refine WPc.loopF tt_ok mx_ok (fun z : Nat × Bool => z.1 ≤ r.send.length ∧ (z.2 = true ↔ ∀ j, j < z.1 → (bumpL c.sent (r.send.take (j + 1))).getD (r.send.getD j 0).toNat 0 ≤ 1048576)) (fun z => [(12, .int .i64 (z.1 : Int)), (11, .bool z.2)]) (fun z => apM2 c r c.value (stN c r x) (bumpL c.sent (r.send.take z.1)) c.faulty) (fun z => r.send.length - z.1) (0, true) ⟨Nat.zero_le _, iffT (fun j hj => by dsimp only at hj; omega)⟩ ?_; conv => whnf
  refine ⟨(Sub.id_ 400 rfl auto_ auto_), ?_⟩
  rintro ⟨k, b⟩ ⟨hk, hb⟩
  dsimp only at hk hb ⊢
  cases b
  · conv => whnf
    refine cmpI (fun g1 => ?_) (fun g1 => ?_) <;> conv => whnf
    · have hm := hse k (by omega)
      have hbb := bumpL_b (r.send.take k) c.sent 1048576 (inR_all h.sent.1) (r.send.getD k 0).toNat
      have htl : (r.send.take k).length ≤ 60 := by rw [List.length_take]; omega
      have hup := bumpL_up (l := c.sent) (ms := r.send) (k := k) (by omega)
      refine cmpT hcor ?_
      conv => whnf
      refine drawI (by decide +kernel) ?_
      conv => whnf
      refine needI (by omega) ?_
      rw [Int.toNat_natCast]
      conv => whnf
      refine needI (by omega) ?_
      conv => whnf
      refine arI trivial (by omega) ?_
      conv => whnf
      refine needI (by omega) ?_
      conv => whnf
      refine rowSetI _ rfl ?_
      rw [← hup]
      conv => whnf
      refine drawI (by decide +kernel) ?_
      conv => whnf
      repeat' (first
          | (refine needI (by first | omega | (dsimp only; omega)) ?_; conv => whnf)
          | (refine arI trivial (by omega) ?_; conv => whnf)
          | (refine cmpT (by omega) ?_; conv => whnf)
          | (refine cmpF (by omega) ?_; conv => whnf)
          | fail)
      exact ⟨(k + 1, false), (Sub.id_ 400 rfl auto_ auto_), ⟨by dsimp only; omega, iffF (fun hh => nIff hb (fun j hj => hh j (by omega)))⟩, by dsimp only; omega⟩
    · obtain rfl : k = r.send.length := by omega
      rw [List.take_length]
      have hap : ¬ apB c r x := by unfold apB; rw [if_pos hcor]; exact nIff hb
      refine ⟨?_, rfl⟩
      rw [decide_eq_false hap, apC_t hcor, if_pos hwr]
      rfl
  · conv => whnf
    refine cmpI (fun g1 => ?_) (fun g1 => ?_) <;> conv => whnf
    · have hm := hse k (by omega)
      have hbb := bumpL_b (r.send.take k) c.sent 1048576 (inR_all h.sent.1) (r.send.getD k 0).toNat
      have htl : (r.send.take k).length ≤ 60 := by rw [List.length_take]; omega
      have hup := bumpL_up (l := c.sent) (ms := r.send) (k := k) (by omega)
      refine cmpT hcor ?_
      conv => whnf
      refine drawI (by decide +kernel) ?_
      conv => whnf
      refine needI (by omega) ?_
      rw [Int.toNat_natCast]
      conv => whnf
      refine needI (by omega) ?_
      conv => whnf
      refine arI trivial (by omega) ?_
      conv => whnf
      refine needI (by omega) ?_
      conv => whnf
      refine rowSetI _ rfl ?_
      rw [← hup]
      conv => whnf
      refine drawI (by decide +kernel) ?_
      conv => whnf
      refine needI (by omega) ?_
      rw [Int.toNat_natCast]
      conv => whnf
      refine needI (by omega) ?_
      conv => whnf
      refine cmpI (fun g2 => ?_) (fun g2 => ?_) <;> conv => whnf
      · repeat' (first
            | (refine needI (by first | omega | (dsimp only; omega)) ?_; conv => whnf)
            | (refine arI trivial (by omega) ?_; conv => whnf)
            | (refine cmpT (by omega) ?_; conv => whnf)
            | (refine cmpF (by omega) ?_; conv => whnf)
            | fail)
        exact ⟨(k + 1, true), (Sub.id_ 400 rfl auto_ auto_), ⟨by dsimp only; omega, iffT (snd_up (hb.1 rfl) g2)⟩, by dsimp only; omega⟩
      · repeat' (first
            | (refine needI (by first | omega | (dsimp only; omega)) ?_; conv => whnf)
            | (refine arI trivial (by omega) ?_; conv => whnf)
            | (refine cmpT (by omega) ?_; conv => whnf)
            | (refine cmpF (by omega) ?_; conv => whnf)
            | fail)
        exact ⟨(k + 1, false), (Sub.id_ 400 rfl auto_ auto_), ⟨by dsimp only; omega, iffF (fun hh => g2 (hh k (by omega)))⟩, by dsimp only; omega⟩
    · obtain rfl : k = r.send.length := by omega
      rw [List.take_length]
      have hap : apB c r x := by unfold apB; rw [if_pos hcor]; exact hb.1 rfl
      refine ⟨?_, rfl⟩
      rw [decide_eq_true hap, apC_t hcor, if_pos hwr]
      rfl
theorem applyR5nf (p : Pro) (s : Siz) (c : Cfg) (x : Stp) (h : Rdy p s c) (he : enB p s c x false) (hk0 : (p.rules.getD x.rule.toNat rul0).kind = 5) (hwr0 : (p.rules.getD x.rule.toNat rul0).write = -1) (hcor0 : ¬ x.process < c.correct) : PSpec Tryz.prog 135 [.agg (encP p), .agg (encC c), .agg (encX x)] (fun u => u = .tup [.agg (encC (apC c (p.rules.getD x.rule.toNat rul0) x)), .bool (decide (apB c (p.rules.getD x.rule.toNat rul0) x))]) := by
  have hle := bigP_le h.big
  have hc := wide_le h.wide
  obtain ⟨hin, hen⟩ := he
  have hR := valid_rule h.val (i := x.rule.toNat) (by omega)
  have hB := bigP_rule h.big (j := x.rule.toNat) (by omega)
  have hsn := h.vc.snl
  have hfa := h.vc.fal
  have hsta := h.vc.sta
  refine PSpec.intro tt_ok mx_ok Tryz.func135 rfl (by decide) ?_; (conv => whnf)
  refine boxP rfl ?_
  conv => whnf
  refine boxP rfl ?_
  conv => whnf
  refine boxP rfl ?_
  conv => whnf
  refine drawF (by decide +kernel) ?_
  conv => whnf
  refine needI (by omega) ?_
  generalize p.rules.getD x.rule.toNat rul0 = r at hen hR hB hk0 hwr0 ⊢
  have hwr := hwr0
  have hcor := hcor0
  have hbr := bigR_le hB
  have hrd := hR.read
  have hfit := hR.fit
  unfold fitB at hfit
  have hse := hR.send
  conv => whnf
  refine callLN 400 (lmC 1001 1002 1003 1004) (memC c) (cfgL c) (copyL c h.wide) (auto_) rfl rfl outC ?_
  conv => whnf
  have hpl : x.process.toNat < c.states.length := by omega
  have hpc : ((x.process.toNat : Nat) : Int) = x.process := by omega
  have k25 : r.kind = 2 ∨ r.kind = 5 := .inr hk0
  obtain ⟨g1, g2, g3, g4⟩ := en_kin hen k25
  have hst : (c.states.set x.partner.toNat r.pto).set x.process.toNat r.dst = stN c r x := st_of (by simp) fun j hj => by
    rw [getD_set, getD_set, List.length_set]
    unfold stG
    by_cases e : x.process.toNat = j
    · rw [if_pos ⟨e, by omega⟩, if_pos (by omega)]
    · rw [if_neg (fun h => e h.1), if_neg (show ¬ (j : Int) = x.process by omega)]
      by_cases e2 : x.partner.toNat = j
      · rw [if_pos ⟨e2, by omega⟩, if_pos ⟨k25, by omega⟩]
      · rw [if_neg (fun h => e2 h.1), if_neg (fun h => e2 (by omega)), if_neg (by omega)]
  repeat' (first
      | (refine needI (by first | omega | (dsimp only; omega)) ?_; conv => whnf)
      | (refine arI trivial (by omega) ?_; conv => whnf)
      | (refine cmpT (by omega) ?_; conv => whnf)
      | (refine cmpF (by omega) ?_; conv => whnf)
      | fail)
  refine rowSetI _ rfl ?_
  conv => whnf
  refine needI (by omega) ?_
  rw [forceK_eq]
  dsimp only
  rw [putD_eq]
  refine ops_store rfl rfl rfl rfl rfl ?_
  rw [hst]
  conv => whnf
  refine cmpF (by omega) ?_
  conv => whnf
  refine WPc.loopF tt_ok mx_ok (fun z : Nat × Bool => z.1 ≤ r.send.length ∧ (z.2 = true ↔ ∀ j, j < z.1 → (bumpL c.faulty (r.send.take (j + 1))).getD (r.send.getD j 0).toNat 0 ≤ 1048576)) (fun z => [(12, .int .i64 (z.1 : Int)), (11, .bool z.2)]) (fun z => apM2 c r c.value (stN c r x) c.sent (bumpL c.faulty (r.send.take z.1))) (fun z => r.send.length - z.1) (0, true) ⟨Nat.zero_le _, iffT (fun j hj => by dsimp only at hj; omega)⟩ ?_; conv => whnf
  refine ⟨(Sub.id_ 400 rfl auto_ auto_), ?_⟩
  rintro ⟨k, b⟩ ⟨hk, hb⟩
  dsimp only at hk hb ⊢
  cases b
  · conv => whnf
    refine cmpI (fun g1 => ?_) (fun g1 => ?_) <;> conv => whnf
    · have hm := hse k (by omega)
      have hbb := bumpL_b (r.send.take k) c.faulty 1048576 (inR_all h.sent.2) (r.send.getD k 0).toNat
      have htl : (r.send.take k).length ≤ 60 := by rw [List.length_take]; omega
      have hup := bumpL_up (l := c.faulty) (ms := r.send) (k := k) (by omega)
      refine cmpF hcor ?_
      conv => whnf
      refine drawI (by decide +kernel) ?_
      conv => whnf
      refine needI (by omega) ?_
      rw [Int.toNat_natCast]
      conv => whnf
      refine needI (by omega) ?_
      conv => whnf
      refine arI trivial (by omega) ?_
      conv => whnf
      refine needI (by omega) ?_
      conv => whnf
      refine rowSetI _ rfl ?_
      rw [← hup]
      conv => whnf
      refine drawI (by decide +kernel) ?_
      conv => whnf
      repeat' (first
          | (refine needI (by first | omega | (dsimp only; omega)) ?_; conv => whnf)
          | (refine arI trivial (by omega) ?_; conv => whnf)
          | (refine cmpT (by omega) ?_; conv => whnf)
          | (refine cmpF (by omega) ?_; conv => whnf)
          | fail)
      exact ⟨(k + 1, false), (Sub.id_ 400 rfl auto_ auto_), ⟨by dsimp only; omega, iffF (fun hh => nIff hb (fun j hj => hh j (by omega)))⟩, by dsimp only; omega⟩
    · obtain rfl : k = r.send.length := by omega
      rw [List.take_length]
      have hap : ¬ apB c r x := by unfold apB; rw [if_neg hcor]; exact nIff hb
      refine ⟨?_, rfl⟩
      rw [decide_eq_false hap, apC_f hcor, if_pos hwr]
      rfl
  · conv => whnf
    refine cmpI (fun g1 => ?_) (fun g1 => ?_) <;> conv => whnf
    · have hm := hse k (by omega)
      have hbb := bumpL_b (r.send.take k) c.faulty 1048576 (inR_all h.sent.2) (r.send.getD k 0).toNat
      have htl : (r.send.take k).length ≤ 60 := by rw [List.length_take]; omega
      have hup := bumpL_up (l := c.faulty) (ms := r.send) (k := k) (by omega)
      refine cmpF hcor ?_
      conv => whnf
      refine drawI (by decide +kernel) ?_
      conv => whnf
      refine needI (by omega) ?_
      rw [Int.toNat_natCast]
      conv => whnf
      refine needI (by omega) ?_
      conv => whnf
      refine arI trivial (by omega) ?_
      conv => whnf
      refine needI (by omega) ?_
      conv => whnf
      refine rowSetI _ rfl ?_
      rw [← hup]
      conv => whnf
      refine drawI (by decide +kernel) ?_
      conv => whnf
      refine needI (by omega) ?_
      rw [Int.toNat_natCast]
      conv => whnf
      refine needI (by omega) ?_
      conv => whnf
      refine cmpI (fun g2 => ?_) (fun g2 => ?_) <;> conv => whnf
      · repeat' (first
            | (refine needI (by first | omega | (dsimp only; omega)) ?_; conv => whnf)
            | (refine arI trivial (by omega) ?_; conv => whnf)
            | (refine cmpT (by omega) ?_; conv => whnf)
            | (refine cmpF (by omega) ?_; conv => whnf)
            | fail)
        exact ⟨(k + 1, true), (Sub.id_ 400 rfl auto_ auto_), ⟨by dsimp only; omega, iffT (snd_up (hb.1 rfl) g2)⟩, by dsimp only; omega⟩
      · repeat' (first
            | (refine needI (by first | omega | (dsimp only; omega)) ?_; conv => whnf)
            | (refine arI trivial (by omega) ?_; conv => whnf)
            | (refine cmpT (by omega) ?_; conv => whnf)
            | (refine cmpF (by omega) ?_; conv => whnf)
            | fail)
        exact ⟨(k + 1, false), (Sub.id_ 400 rfl auto_ auto_), ⟨by dsimp only; omega, iffF (fun hh => g2 (hh k (by omega)))⟩, by dsimp only; omega⟩
    · obtain rfl : k = r.send.length := by omega
      rw [List.take_length]
      have hap : apB c r x := by unfold apB; rw [if_neg hcor]; exact hb.1 rfl
      refine ⟨?_, rfl⟩
      rw [decide_eq_true hap, apC_f hcor, if_pos hwr]
      rfl
theorem applyR5wt (p : Pro) (s : Siz) (c : Cfg) (x : Stp) (h : Rdy p s c) (he : enB p s c x false) (hk0 : (p.rules.getD x.rule.toNat rul0).kind = 5) (hwr0 : (p.rules.getD x.rule.toNat rul0).write ≠ -1) (hcor0 : x.process < c.correct) : PSpec Tryz.prog 135 [.agg (encP p), .agg (encC c), .agg (encX x)] (fun u => u = .tup [.agg (encC (apC c (p.rules.getD x.rule.toNat rul0) x)), .bool (decide (apB c (p.rules.getD x.rule.toNat rul0) x))]) := by
  have hle := bigP_le h.big
  have hc := wide_le h.wide
  obtain ⟨hin, hen⟩ := he
  have hR := valid_rule h.val (i := x.rule.toNat) (by omega)
  have hB := bigP_rule h.big (j := x.rule.toNat) (by omega)
  have hsn := h.vc.snl
  have hfa := h.vc.fal
  have hsta := h.vc.sta
  refine PSpec.intro tt_ok mx_ok Tryz.func135 rfl (by decide) ?_; (conv => whnf)
  refine boxP rfl ?_
  conv => whnf
  refine boxP rfl ?_
  conv => whnf
  refine boxP rfl ?_
  conv => whnf
  refine drawF (by decide +kernel) ?_
  conv => whnf
  refine needI (by omega) ?_
  generalize p.rules.getD x.rule.toNat rul0 = r at hen hR hB hk0 hwr0 ⊢
  have hwr := hwr0
  have hcor := hcor0
  have hbr := bigR_le hB
  have hrd := hR.read
  have hfit := hR.fit
  unfold fitB at hfit
  have hse := hR.send
  conv => whnf
  refine callLN 400 (lmC 1001 1002 1003 1004) (memC c) (cfgL c) (copyL c h.wide) (auto_) rfl rfl outC ?_
  conv => whnf
  have hpl : x.process.toNat < c.states.length := by omega
  have hpc : ((x.process.toNat : Nat) : Int) = x.process := by omega
  have k25 : r.kind = 2 ∨ r.kind = 5 := .inr hk0
  obtain ⟨g1, g2, g3, g4⟩ := en_kin hen k25
  have hst : (c.states.set x.partner.toNat r.pto).set x.process.toNat r.dst = stN c r x := st_of (by simp) fun j hj => by
    rw [getD_set, getD_set, List.length_set]
    unfold stG
    by_cases e : x.process.toNat = j
    · rw [if_pos ⟨e, by omega⟩, if_pos (by omega)]
    · rw [if_neg (fun h => e h.1), if_neg (show ¬ (j : Int) = x.process by omega)]
      by_cases e2 : x.partner.toNat = j
      · rw [if_pos ⟨e2, by omega⟩, if_pos ⟨k25, by omega⟩]
      · rw [if_neg (fun h => e2 h.1), if_neg (fun h => e2 (by omega)), if_neg (by omega)]
  repeat' (first
      | (refine needI (by first | omega | (dsimp only; omega)) ?_; conv => whnf)
      | (refine arI trivial (by omega) ?_; conv => whnf)
      | (refine cmpT (by omega) ?_; conv => whnf)
      | (refine cmpF (by omega) ?_; conv => whnf)
      | fail)
  refine rowSetI _ rfl ?_
  conv => whnf
  refine needI (by omega) ?_
  rw [forceK_eq]
  dsimp only
  rw [putD_eq]
  refine ops_store rfl rfl rfl rfl rfl ?_
  rw [hst]
  conv => whnf
  refine cmpT (by omega) ?_
  conv => whnf
  refine WPc.loopF tt_ok mx_ok (fun z : Nat × Bool => z.1 ≤ r.send.length ∧ (z.2 = true ↔ ∀ j, j < z.1 → (bumpL c.sent (r.send.take (j + 1))).getD (r.send.getD j 0).toNat 0 ≤ 1048576)) (fun z => [(12, .int .i64 (z.1 : Int)), (11, .bool z.2)]) (fun z => apM2 c r r.write (stN c r x) (bumpL c.sent (r.send.take z.1)) c.faulty) (fun z => r.send.length - z.1) (0, true) ⟨Nat.zero_le _, iffT (fun j hj => by dsimp only at hj; omega)⟩ ?_; conv => whnf
  refine ⟨(Sub.id_ 400 rfl auto_ auto_), ?_⟩
  rintro ⟨k, b⟩ ⟨hk, hb⟩
  dsimp only at hk hb ⊢
  cases b
  · conv => whnf
    refine cmpI (fun g1 => ?_) (fun g1 => ?_) <;> conv => whnf
    · have hm := hse k (by omega)
      have hbb := bumpL_b (r.send.take k) c.sent 1048576 (inR_all h.sent.1) (r.send.getD k 0).toNat
      have htl : (r.send.take k).length ≤ 60 := by rw [List.length_take]; omega
      have hup := bumpL_up (l := c.sent) (ms := r.send) (k := k) (by omega)
      refine cmpT hcor ?_
      conv => whnf
      refine drawI (by decide +kernel) ?_
      conv => whnf
      refine needI (by omega) ?_
      rw [Int.toNat_natCast]
      conv => whnf
      refine needI (by omega) ?_
      conv => whnf
      refine arI trivial (by omega) ?_
      conv => whnf
      refine needI (by omega) ?_
      conv => whnf
      refine rowSetI _ rfl ?_
      rw [← hup]
      conv => whnf
      refine drawI (by decide +kernel) ?_
      conv => whnf
      repeat' (first
          | (refine needI (by first | omega | (dsimp only; omega)) ?_; conv => whnf)
          | (refine arI trivial (by omega) ?_; conv => whnf)
          | (refine cmpT (by omega) ?_; conv => whnf)
          | (refine cmpF (by omega) ?_; conv => whnf)
          | fail)
      exact ⟨(k + 1, false), (Sub.id_ 400 rfl auto_ auto_), ⟨by dsimp only; omega, iffF (fun hh => nIff hb (fun j hj => hh j (by omega)))⟩, by dsimp only; omega⟩
    · obtain rfl : k = r.send.length := by omega
      rw [List.take_length]
      have hap : ¬ apB c r x := by unfold apB; rw [if_pos hcor]; exact nIff hb
      refine ⟨?_, rfl⟩
      rw [decide_eq_false hap, apC_t hcor, if_neg hwr]
      rfl
  · conv => whnf
    refine cmpI (fun g1 => ?_) (fun g1 => ?_) <;> conv => whnf
    · have hm := hse k (by omega)
      have hbb := bumpL_b (r.send.take k) c.sent 1048576 (inR_all h.sent.1) (r.send.getD k 0).toNat
      have htl : (r.send.take k).length ≤ 60 := by rw [List.length_take]; omega
      have hup := bumpL_up (l := c.sent) (ms := r.send) (k := k) (by omega)
      refine cmpT hcor ?_
      conv => whnf
      refine drawI (by decide +kernel) ?_
      conv => whnf
      refine needI (by omega) ?_
      rw [Int.toNat_natCast]
      conv => whnf
      refine needI (by omega) ?_
      conv => whnf
      refine arI trivial (by omega) ?_
      conv => whnf
      refine needI (by omega) ?_
      conv => whnf
      refine rowSetI _ rfl ?_
      rw [← hup]
      conv => whnf
      refine drawI (by decide +kernel) ?_
      conv => whnf
      refine needI (by omega) ?_
      rw [Int.toNat_natCast]
      conv => whnf
      refine needI (by omega) ?_
      conv => whnf
      refine cmpI (fun g2 => ?_) (fun g2 => ?_) <;> conv => whnf
      · repeat' (first
            | (refine needI (by first | omega | (dsimp only; omega)) ?_; conv => whnf)
            | (refine arI trivial (by omega) ?_; conv => whnf)
            | (refine cmpT (by omega) ?_; conv => whnf)
            | (refine cmpF (by omega) ?_; conv => whnf)
            | fail)
        exact ⟨(k + 1, true), (Sub.id_ 400 rfl auto_ auto_), ⟨by dsimp only; omega, iffT (snd_up (hb.1 rfl) g2)⟩, by dsimp only; omega⟩
      · repeat' (first
            | (refine needI (by first | omega | (dsimp only; omega)) ?_; conv => whnf)
            | (refine arI trivial (by omega) ?_; conv => whnf)
            | (refine cmpT (by omega) ?_; conv => whnf)
            | (refine cmpF (by omega) ?_; conv => whnf)
            | fail)
        exact ⟨(k + 1, false), (Sub.id_ 400 rfl auto_ auto_), ⟨by dsimp only; omega, iffF (fun hh => g2 (hh k (by omega)))⟩, by dsimp only; omega⟩
    · obtain rfl : k = r.send.length := by omega
      rw [List.take_length]
      have hap : apB c r x := by unfold apB; rw [if_pos hcor]; exact hb.1 rfl
      refine ⟨?_, rfl⟩
      rw [decide_eq_true hap, apC_t hcor, if_neg hwr]
      rfl
theorem applyR5wf (p : Pro) (s : Siz) (c : Cfg) (x : Stp) (h : Rdy p s c) (he : enB p s c x false) (hk0 : (p.rules.getD x.rule.toNat rul0).kind = 5) (hwr0 : (p.rules.getD x.rule.toNat rul0).write ≠ -1) (hcor0 : ¬ x.process < c.correct) : PSpec Tryz.prog 135 [.agg (encP p), .agg (encC c), .agg (encX x)] (fun u => u = .tup [.agg (encC (apC c (p.rules.getD x.rule.toNat rul0) x)), .bool (decide (apB c (p.rules.getD x.rule.toNat rul0) x))]) := by
  have hle := bigP_le h.big
  have hc := wide_le h.wide
  obtain ⟨hin, hen⟩ := he
  have hR := valid_rule h.val (i := x.rule.toNat) (by omega)
  have hB := bigP_rule h.big (j := x.rule.toNat) (by omega)
  have hsn := h.vc.snl
  have hfa := h.vc.fal
  have hsta := h.vc.sta
  refine PSpec.intro tt_ok mx_ok Tryz.func135 rfl (by decide) ?_; (conv => whnf)
  refine boxP rfl ?_
  conv => whnf
  refine boxP rfl ?_
  conv => whnf
  refine boxP rfl ?_
  conv => whnf
  refine drawF (by decide +kernel) ?_
  conv => whnf
  refine needI (by omega) ?_
  generalize p.rules.getD x.rule.toNat rul0 = r at hen hR hB hk0 hwr0 ⊢
  have hwr := hwr0
  have hcor := hcor0
  have hbr := bigR_le hB
  have hrd := hR.read
  have hfit := hR.fit
  unfold fitB at hfit
  have hse := hR.send
  conv => whnf
  refine callLN 400 (lmC 1001 1002 1003 1004) (memC c) (cfgL c) (copyL c h.wide) (auto_) rfl rfl outC ?_
  conv => whnf
  have hpl : x.process.toNat < c.states.length := by omega
  have hpc : ((x.process.toNat : Nat) : Int) = x.process := by omega
  have k25 : r.kind = 2 ∨ r.kind = 5 := .inr hk0
  obtain ⟨g1, g2, g3, g4⟩ := en_kin hen k25
  have hst : (c.states.set x.partner.toNat r.pto).set x.process.toNat r.dst = stN c r x := st_of (by simp) fun j hj => by
    rw [getD_set, getD_set, List.length_set]
    unfold stG
    by_cases e : x.process.toNat = j
    · rw [if_pos ⟨e, by omega⟩, if_pos (by omega)]
    · rw [if_neg (fun h => e h.1), if_neg (show ¬ (j : Int) = x.process by omega)]
      by_cases e2 : x.partner.toNat = j
      · rw [if_pos ⟨e2, by omega⟩, if_pos ⟨k25, by omega⟩]
      · rw [if_neg (fun h => e2 h.1), if_neg (fun h => e2 (by omega)), if_neg (by omega)]
  repeat' (first
      | (refine needI (by first | omega | (dsimp only; omega)) ?_; conv => whnf)
      | (refine arI trivial (by omega) ?_; conv => whnf)
      | (refine cmpT (by omega) ?_; conv => whnf)
      | (refine cmpF (by omega) ?_; conv => whnf)
      | fail)
  refine rowSetI _ rfl ?_
  conv => whnf
  refine needI (by omega) ?_
  rw [forceK_eq]
  dsimp only
  rw [putD_eq]
  refine ops_store rfl rfl rfl rfl rfl ?_
  rw [hst]
  conv => whnf
  refine cmpT (by omega) ?_
  conv => whnf
  refine WPc.loopF tt_ok mx_ok (fun z : Nat × Bool => z.1 ≤ r.send.length ∧ (z.2 = true ↔ ∀ j, j < z.1 → (bumpL c.faulty (r.send.take (j + 1))).getD (r.send.getD j 0).toNat 0 ≤ 1048576)) (fun z => [(12, .int .i64 (z.1 : Int)), (11, .bool z.2)]) (fun z => apM2 c r r.write (stN c r x) c.sent (bumpL c.faulty (r.send.take z.1))) (fun z => r.send.length - z.1) (0, true) ⟨Nat.zero_le _, iffT (fun j hj => by dsimp only at hj; omega)⟩ ?_; conv => whnf
  refine ⟨(Sub.id_ 400 rfl auto_ auto_), ?_⟩
  rintro ⟨k, b⟩ ⟨hk, hb⟩
  dsimp only at hk hb ⊢
  cases b
  · conv => whnf
    refine cmpI (fun g1 => ?_) (fun g1 => ?_) <;> conv => whnf
    · have hm := hse k (by omega)
      have hbb := bumpL_b (r.send.take k) c.faulty 1048576 (inR_all h.sent.2) (r.send.getD k 0).toNat
      have htl : (r.send.take k).length ≤ 60 := by rw [List.length_take]; omega
      have hup := bumpL_up (l := c.faulty) (ms := r.send) (k := k) (by omega)
      refine cmpF hcor ?_
      conv => whnf
      refine drawI (by decide +kernel) ?_
      conv => whnf
      refine needI (by omega) ?_
      rw [Int.toNat_natCast]
      conv => whnf
      refine needI (by omega) ?_
      conv => whnf
      refine arI trivial (by omega) ?_
      conv => whnf
      refine needI (by omega) ?_
      conv => whnf
      refine rowSetI _ rfl ?_
      rw [← hup]
      conv => whnf
      refine drawI (by decide +kernel) ?_
      conv => whnf
      repeat' (first
          | (refine needI (by first | omega | (dsimp only; omega)) ?_; conv => whnf)
          | (refine arI trivial (by omega) ?_; conv => whnf)
          | (refine cmpT (by omega) ?_; conv => whnf)
          | (refine cmpF (by omega) ?_; conv => whnf)
          | fail)
      exact ⟨(k + 1, false), (Sub.id_ 400 rfl auto_ auto_), ⟨by dsimp only; omega, iffF (fun hh => nIff hb (fun j hj => hh j (by omega)))⟩, by dsimp only; omega⟩
    · obtain rfl : k = r.send.length := by omega
      rw [List.take_length]
      have hap : ¬ apB c r x := by unfold apB; rw [if_neg hcor]; exact nIff hb
      refine ⟨?_, rfl⟩
      rw [decide_eq_false hap, apC_f hcor, if_neg hwr]
      rfl
  · conv => whnf
    refine cmpI (fun g1 => ?_) (fun g1 => ?_) <;> conv => whnf
    · have hm := hse k (by omega)
      have hbb := bumpL_b (r.send.take k) c.faulty 1048576 (inR_all h.sent.2) (r.send.getD k 0).toNat
      have htl : (r.send.take k).length ≤ 60 := by rw [List.length_take]; omega
      have hup := bumpL_up (l := c.faulty) (ms := r.send) (k := k) (by omega)
      refine cmpF hcor ?_
      conv => whnf
      refine drawI (by decide +kernel) ?_
      conv => whnf
      refine needI (by omega) ?_
      rw [Int.toNat_natCast]
      conv => whnf
      refine needI (by omega) ?_
      conv => whnf
      refine arI trivial (by omega) ?_
      conv => whnf
      refine needI (by omega) ?_
      conv => whnf
      refine rowSetI _ rfl ?_
      rw [← hup]
      conv => whnf
      refine drawI (by decide +kernel) ?_
      conv => whnf
      refine needI (by omega) ?_
      rw [Int.toNat_natCast]
      conv => whnf
      refine needI (by omega) ?_
      conv => whnf
      refine cmpI (fun g2 => ?_) (fun g2 => ?_) <;> conv => whnf
      · repeat' (first
            | (refine needI (by first | omega | (dsimp only; omega)) ?_; conv => whnf)
            | (refine arI trivial (by omega) ?_; conv => whnf)
            | (refine cmpT (by omega) ?_; conv => whnf)
            | (refine cmpF (by omega) ?_; conv => whnf)
            | fail)
        exact ⟨(k + 1, true), (Sub.id_ 400 rfl auto_ auto_), ⟨by dsimp only; omega, iffT (snd_up (hb.1 rfl) g2)⟩, by dsimp only; omega⟩
      · repeat' (first
            | (refine needI (by first | omega | (dsimp only; omega)) ?_; conv => whnf)
            | (refine arI trivial (by omega) ?_; conv => whnf)
            | (refine cmpT (by omega) ?_; conv => whnf)
            | (refine cmpF (by omega) ?_; conv => whnf)
            | fail)
        exact ⟨(k + 1, false), (Sub.id_ 400 rfl auto_ auto_), ⟨by dsimp only; omega, iffF (fun hh => g2 (hh k (by omega)))⟩, by dsimp only; omega⟩
    · obtain rfl : k = r.send.length := by omega
      rw [List.take_length]
      have hap : apB c r x := by unfold apB; rw [if_neg hcor]; exact hb.1 rfl
      refine ⟨?_, rfl⟩
      rw [decide_eq_true hap, apC_f hcor, if_neg hwr]
      rfl
theorem applyR3nt (p : Pro) (s : Siz) (c : Cfg) (x : Stp) (h : Rdy p s c) (he : enB p s c x false) (hk0 : (p.rules.getD x.rule.toNat rul0).kind = 3) (hwr0 : (p.rules.getD x.rule.toNat rul0).write = -1) (hcor0 : x.process < c.correct) : PSpec Tryz.prog 135 [.agg (encP p), .agg (encC c), .agg (encX x)] (fun u => u = .tup [.agg (encC (apC c (p.rules.getD x.rule.toNat rul0) x)), .bool (decide (apB c (p.rules.getD x.rule.toNat rul0) x))]) := by
  have hle := bigP_le h.big
  have hc := wide_le h.wide
  obtain ⟨hin, hen⟩ := he
  have hR := valid_rule h.val (i := x.rule.toNat) (by omega)
  have hB := bigP_rule h.big (j := x.rule.toNat) (by omega)
  have hsn := h.vc.snl
  have hfa := h.vc.fal
  have hsta := h.vc.sta
  refine PSpec.intro tt_ok mx_ok Tryz.func135 rfl (by decide) ?_; (conv => whnf)
  refine boxP rfl ?_
  conv => whnf
  refine boxP rfl ?_
  conv => whnf
  refine boxP rfl ?_
  conv => whnf
  refine drawF (by decide +kernel) ?_
  conv => whnf
  refine needI (by omega) ?_
  generalize p.rules.getD x.rule.toNat rul0 = r at hen hR hB hk0 hwr0 ⊢
  have hwr := hwr0
  have hcor := hcor0
  have hbr := bigR_le hB
  have hrd := hR.read
  have hfit := hR.fit
  unfold fitB at hfit
  have hse := hR.send
  conv => whnf
  refine callLN 400 (lmC 1001 1002 1003 1004) (memC c) (cfgL c) (copyL c h.wide) (auto_) rfl rfl outC ?_
  conv => whnf
  have hpl : x.process.toNat < c.states.length := by omega
  have hpc : ((x.process.toNat : Nat) : Int) = x.process := by omega
  have k3 := hk0
  obtain ⟨hrl, hri⟩ := hR.resp k3
  repeat' (first
      | (refine needI (by first | omega | (dsimp only; omega)) ?_; conv => whnf)
      | (refine arI trivial (by omega) ?_; conv => whnf)
      | (refine cmpT (by omega) ?_; conv => whnf)
      | (refine cmpF (by omega) ?_; conv => whnf)
      | fail)
  refine WPc.loopF tt_ok mx_ok (fun z : Nat × List Int => z.1 ≤ c.states.length ∧ z.2.length = c.states.length ∧ ∀ j, j < c.states.length → z.2.getD j 0 = if j < z.1 then r.response.getD (c.states.getD j 0).toNat 0 else c.states.getD j 0) (fun z => [(10, .int .i64 (z.1 : Int))]) (fun z => apM2 c r c.value z.2 c.sent c.faulty) (fun z => c.states.length - z.1) (0, c.states) ⟨Nat.zero_le _, rfl, fun j hj => by
    dsimp only
    rw [if_neg (by omega)]⟩ ?_; conv => whnf
  refine ⟨(Sub.id_ 400 rfl auto_ auto_), ?_⟩
  rintro ⟨k, l⟩ ⟨h1, h2, h3⟩
  dsimp only at h1 h2 h3 ⊢
  conv => whnf
  refine cmpI (fun g1 => ?_) (fun g1 => ?_) <;> conv => whnf
  case' refine_1 =>
    have hy := hsta k (by omega)
    refine drawR (by decide +kernel) ?_
    conv => whnf
    refine needI (by omega) ?_
    rw [Int.toNat_natCast]
    conv => whnf
    refine needI (by omega) ?_
    conv => whnf
    refine needI (by omega) ?_
    conv => whnf
    refine rowSetI _ rfl ?_
    rw [Int.toNat_natCast]
    conv => whnf
    repeat' (first
        | (refine needI (by first | omega | (dsimp only; omega)) ?_; conv => whnf)
        | (refine arI trivial (by omega) ?_; conv => whnf)
        | (refine cmpT (by omega) ?_; conv => whnf)
        | (refine cmpF (by omega) ?_; conv => whnf)
        | fail)
    refine ⟨(k + 1, l.set k (r.response.getD (c.states.getD k 0).toNat 0)), (Sub.id_ 400 rfl auto_ auto_), ⟨by dsimp only; omega, by simpa using h2, fun j hj => ?_⟩, by dsimp only; omega⟩
    dsimp only
    rw [getD_set]
    by_cases e : k = j
    · subst e; rw [if_pos ⟨rfl, by omega⟩, if_pos (by omega)]
    · rw [if_neg (fun h => e h.1), h3 j hj]
      by_cases e3 : j < k
      · rw [if_pos e3, if_pos (by omega)]
      · rw [if_neg e3, if_neg (by omega)]
  have hst : l.set x.process.toNat r.dst = stN c r x := st_of (by simpa using h2) fun j hj => by
    rw [getD_set]
    unfold stG
    by_cases e : x.process.toNat = j
    · rw [if_pos ⟨e, by omega⟩, if_pos (by omega)]
    · rw [if_neg (fun h => e h.1), h3 j hj, if_pos (by omega), if_neg (show ¬ (j : Int) = x.process by omega), if_neg (by omega), if_pos k3]
  repeat' (first
      | (refine needI (by first | omega | (dsimp only; omega)) ?_; conv => whnf)
      | (refine arI trivial (by omega) ?_; conv => whnf)
      | (refine cmpT (by omega) ?_; conv => whnf)
      | (refine cmpF (by omega) ?_; conv => whnf)
      | fail)
  refine rowSetI _ rfl ?_
  rw [hst]
  conv => whnf
  refine cmpF (by omega) ?_
  conv => whnf
  refine WPc.loopF tt_ok mx_ok (fun z : Nat × Bool => z.1 ≤ r.send.length ∧ (z.2 = true ↔ ∀ j, j < z.1 → (bumpL c.sent (r.send.take (j + 1))).getD (r.send.getD j 0).toNat 0 ≤ 1048576)) (fun z => [(12, .int .i64 (z.1 : Int)), (11, .bool z.2)]) (fun z => apM2 c r c.value (stN c r x) (bumpL c.sent (r.send.take z.1)) c.faulty) (fun z => r.send.length - z.1) (0, true) ⟨Nat.zero_le _, iffT (fun j hj => by dsimp only at hj; omega)⟩ ?_; conv => whnf
  refine ⟨(Sub.id_ 400 rfl auto_ auto_), ?_⟩
  rintro ⟨k, b⟩ ⟨hk, hb⟩
  dsimp only at hk hb ⊢
  cases b
  · conv => whnf
    refine cmpI (fun g1 => ?_) (fun g1 => ?_) <;> conv => whnf
    · have hm := hse k (by omega)
      have hbb := bumpL_b (r.send.take k) c.sent 1048576 (inR_all h.sent.1) (r.send.getD k 0).toNat
      have htl : (r.send.take k).length ≤ 60 := by rw [List.length_take]; omega
      have hup := bumpL_up (l := c.sent) (ms := r.send) (k := k) (by omega)
      refine cmpT hcor ?_
      conv => whnf
      refine drawI (by decide +kernel) ?_
      conv => whnf
      refine needI (by omega) ?_
      rw [Int.toNat_natCast]
      conv => whnf
      refine needI (by omega) ?_
      conv => whnf
      refine arI trivial (by omega) ?_
      conv => whnf
      refine needI (by omega) ?_
      conv => whnf
      refine rowSetI _ rfl ?_
      rw [← hup]
      conv => whnf
      refine drawI (by decide +kernel) ?_
      conv => whnf
      repeat' (first
          | (refine needI (by first | omega | (dsimp only; omega)) ?_; conv => whnf)
          | (refine arI trivial (by omega) ?_; conv => whnf)
          | (refine cmpT (by omega) ?_; conv => whnf)
          | (refine cmpF (by omega) ?_; conv => whnf)
          | fail)
      exact ⟨(k + 1, false), (Sub.id_ 400 rfl auto_ auto_), ⟨by dsimp only; omega, iffF (fun hh => nIff hb (fun j hj => hh j (by omega)))⟩, by dsimp only; omega⟩
    · obtain rfl : k = r.send.length := by omega
      rw [List.take_length]
      have hap : ¬ apB c r x := by unfold apB; rw [if_pos hcor]; exact nIff hb
      refine ⟨?_, rfl⟩
      rw [decide_eq_false hap, apC_t hcor, if_pos hwr]
      rfl
  · conv => whnf
    refine cmpI (fun g1 => ?_) (fun g1 => ?_) <;> conv => whnf
    · have hm := hse k (by omega)
      have hbb := bumpL_b (r.send.take k) c.sent 1048576 (inR_all h.sent.1) (r.send.getD k 0).toNat
      have htl : (r.send.take k).length ≤ 60 := by rw [List.length_take]; omega
      have hup := bumpL_up (l := c.sent) (ms := r.send) (k := k) (by omega)
      refine cmpT hcor ?_
      conv => whnf
      refine drawI (by decide +kernel) ?_
      conv => whnf
      refine needI (by omega) ?_
      rw [Int.toNat_natCast]
      conv => whnf
      refine needI (by omega) ?_
      conv => whnf
      refine arI trivial (by omega) ?_
      conv => whnf
      refine needI (by omega) ?_
      conv => whnf
      refine rowSetI _ rfl ?_
      rw [← hup]
      conv => whnf
      refine drawI (by decide +kernel) ?_
      conv => whnf
      refine needI (by omega) ?_
      rw [Int.toNat_natCast]
      conv => whnf
      refine needI (by omega) ?_
      conv => whnf
      refine cmpI (fun g2 => ?_) (fun g2 => ?_) <;> conv => whnf
      · repeat' (first
            | (refine needI (by first | omega | (dsimp only; omega)) ?_; conv => whnf)
            | (refine arI trivial (by omega) ?_; conv => whnf)
            | (refine cmpT (by omega) ?_; conv => whnf)
            | (refine cmpF (by omega) ?_; conv => whnf)
            | fail)
        exact ⟨(k + 1, true), (Sub.id_ 400 rfl auto_ auto_), ⟨by dsimp only; omega, iffT (snd_up (hb.1 rfl) g2)⟩, by dsimp only; omega⟩
      · repeat' (first
            | (refine needI (by first | omega | (dsimp only; omega)) ?_; conv => whnf)
            | (refine arI trivial (by omega) ?_; conv => whnf)
            | (refine cmpT (by omega) ?_; conv => whnf)
            | (refine cmpF (by omega) ?_; conv => whnf)
            | fail)
        exact ⟨(k + 1, false), (Sub.id_ 400 rfl auto_ auto_), ⟨by dsimp only; omega, iffF (fun hh => g2 (hh k (by omega)))⟩, by dsimp only; omega⟩
    · obtain rfl : k = r.send.length := by omega
      rw [List.take_length]
      have hap : apB c r x := by unfold apB; rw [if_pos hcor]; exact hb.1 rfl
      refine ⟨?_, rfl⟩
      rw [decide_eq_true hap, apC_t hcor, if_pos hwr]
      rfl
theorem applyR3nf (p : Pro) (s : Siz) (c : Cfg) (x : Stp) (h : Rdy p s c) (he : enB p s c x false) (hk0 : (p.rules.getD x.rule.toNat rul0).kind = 3) (hwr0 : (p.rules.getD x.rule.toNat rul0).write = -1) (hcor0 : ¬ x.process < c.correct) : PSpec Tryz.prog 135 [.agg (encP p), .agg (encC c), .agg (encX x)] (fun u => u = .tup [.agg (encC (apC c (p.rules.getD x.rule.toNat rul0) x)), .bool (decide (apB c (p.rules.getD x.rule.toNat rul0) x))]) := by
  have hle := bigP_le h.big
  have hc := wide_le h.wide
  obtain ⟨hin, hen⟩ := he
  have hR := valid_rule h.val (i := x.rule.toNat) (by omega)
  have hB := bigP_rule h.big (j := x.rule.toNat) (by omega)
  have hsn := h.vc.snl
  have hfa := h.vc.fal
  have hsta := h.vc.sta
  refine PSpec.intro tt_ok mx_ok Tryz.func135 rfl (by decide) ?_; (conv => whnf)
  refine boxP rfl ?_
  conv => whnf
  refine boxP rfl ?_
  conv => whnf
  refine boxP rfl ?_
  conv => whnf
  refine drawF (by decide +kernel) ?_
  conv => whnf
  refine needI (by omega) ?_
  generalize p.rules.getD x.rule.toNat rul0 = r at hen hR hB hk0 hwr0 ⊢
  have hwr := hwr0
  have hcor := hcor0
  have hbr := bigR_le hB
  have hrd := hR.read
  have hfit := hR.fit
  unfold fitB at hfit
  have hse := hR.send
  conv => whnf
  refine callLN 400 (lmC 1001 1002 1003 1004) (memC c) (cfgL c) (copyL c h.wide) (auto_) rfl rfl outC ?_
  conv => whnf
  have hpl : x.process.toNat < c.states.length := by omega
  have hpc : ((x.process.toNat : Nat) : Int) = x.process := by omega
  have k3 := hk0
  obtain ⟨hrl, hri⟩ := hR.resp k3
  repeat' (first
      | (refine needI (by first | omega | (dsimp only; omega)) ?_; conv => whnf)
      | (refine arI trivial (by omega) ?_; conv => whnf)
      | (refine cmpT (by omega) ?_; conv => whnf)
      | (refine cmpF (by omega) ?_; conv => whnf)
      | fail)
  refine WPc.loopF tt_ok mx_ok (fun z : Nat × List Int => z.1 ≤ c.states.length ∧ z.2.length = c.states.length ∧ ∀ j, j < c.states.length → z.2.getD j 0 = if j < z.1 then r.response.getD (c.states.getD j 0).toNat 0 else c.states.getD j 0) (fun z => [(10, .int .i64 (z.1 : Int))]) (fun z => apM2 c r c.value z.2 c.sent c.faulty) (fun z => c.states.length - z.1) (0, c.states) ⟨Nat.zero_le _, rfl, fun j hj => by
    dsimp only
    rw [if_neg (by omega)]⟩ ?_; conv => whnf
  refine ⟨(Sub.id_ 400 rfl auto_ auto_), ?_⟩
  rintro ⟨k, l⟩ ⟨h1, h2, h3⟩
  dsimp only at h1 h2 h3 ⊢
  conv => whnf
  refine cmpI (fun g1 => ?_) (fun g1 => ?_) <;> conv => whnf
  case' refine_1 =>
    have hy := hsta k (by omega)
    refine drawR (by decide +kernel) ?_
    conv => whnf
    refine needI (by omega) ?_
    rw [Int.toNat_natCast]
    conv => whnf
    refine needI (by omega) ?_
    conv => whnf
    refine needI (by omega) ?_
    conv => whnf
    refine rowSetI _ rfl ?_
    rw [Int.toNat_natCast]
    conv => whnf
    repeat' (first
        | (refine needI (by first | omega | (dsimp only; omega)) ?_; conv => whnf)
        | (refine arI trivial (by omega) ?_; conv => whnf)
        | (refine cmpT (by omega) ?_; conv => whnf)
        | (refine cmpF (by omega) ?_; conv => whnf)
        | fail)
    refine ⟨(k + 1, l.set k (r.response.getD (c.states.getD k 0).toNat 0)), (Sub.id_ 400 rfl auto_ auto_), ⟨by dsimp only; omega, by simpa using h2, fun j hj => ?_⟩, by dsimp only; omega⟩
    dsimp only
    rw [getD_set]
    by_cases e : k = j
    · subst e; rw [if_pos ⟨rfl, by omega⟩, if_pos (by omega)]
    · rw [if_neg (fun h => e h.1), h3 j hj]
      by_cases e3 : j < k
      · rw [if_pos e3, if_pos (by omega)]
      · rw [if_neg e3, if_neg (by omega)]
  have hst : l.set x.process.toNat r.dst = stN c r x := st_of (by simpa using h2) fun j hj => by
    rw [getD_set]
    unfold stG
    by_cases e : x.process.toNat = j
    · rw [if_pos ⟨e, by omega⟩, if_pos (by omega)]
    · rw [if_neg (fun h => e h.1), h3 j hj, if_pos (by omega), if_neg (show ¬ (j : Int) = x.process by omega), if_neg (by omega), if_pos k3]
  repeat' (first
      | (refine needI (by first | omega | (dsimp only; omega)) ?_; conv => whnf)
      | (refine arI trivial (by omega) ?_; conv => whnf)
      | (refine cmpT (by omega) ?_; conv => whnf)
      | (refine cmpF (by omega) ?_; conv => whnf)
      | fail)
  refine rowSetI _ rfl ?_
  rw [hst]
  conv => whnf
  refine cmpF (by omega) ?_
  conv => whnf
  refine WPc.loopF tt_ok mx_ok (fun z : Nat × Bool => z.1 ≤ r.send.length ∧ (z.2 = true ↔ ∀ j, j < z.1 → (bumpL c.faulty (r.send.take (j + 1))).getD (r.send.getD j 0).toNat 0 ≤ 1048576)) (fun z => [(12, .int .i64 (z.1 : Int)), (11, .bool z.2)]) (fun z => apM2 c r c.value (stN c r x) c.sent (bumpL c.faulty (r.send.take z.1))) (fun z => r.send.length - z.1) (0, true) ⟨Nat.zero_le _, iffT (fun j hj => by dsimp only at hj; omega)⟩ ?_; conv => whnf
  refine ⟨(Sub.id_ 400 rfl auto_ auto_), ?_⟩
  rintro ⟨k, b⟩ ⟨hk, hb⟩
  dsimp only at hk hb ⊢
  cases b
  · conv => whnf
    refine cmpI (fun g1 => ?_) (fun g1 => ?_) <;> conv => whnf
    · have hm := hse k (by omega)
      have hbb := bumpL_b (r.send.take k) c.faulty 1048576 (inR_all h.sent.2) (r.send.getD k 0).toNat
      have htl : (r.send.take k).length ≤ 60 := by rw [List.length_take]; omega
      have hup := bumpL_up (l := c.faulty) (ms := r.send) (k := k) (by omega)
      refine cmpF hcor ?_
      conv => whnf
      refine drawI (by decide +kernel) ?_
      conv => whnf
      refine needI (by omega) ?_
      rw [Int.toNat_natCast]
      conv => whnf
      refine needI (by omega) ?_
      conv => whnf
      refine arI trivial (by omega) ?_
      conv => whnf
      refine needI (by omega) ?_
      conv => whnf
      refine rowSetI _ rfl ?_
      rw [← hup]
      conv => whnf
      refine drawI (by decide +kernel) ?_
      conv => whnf
      repeat' (first
          | (refine needI (by first | omega | (dsimp only; omega)) ?_; conv => whnf)
          | (refine arI trivial (by omega) ?_; conv => whnf)
          | (refine cmpT (by omega) ?_; conv => whnf)
          | (refine cmpF (by omega) ?_; conv => whnf)
          | fail)
      exact ⟨(k + 1, false), (Sub.id_ 400 rfl auto_ auto_), ⟨by dsimp only; omega, iffF (fun hh => nIff hb (fun j hj => hh j (by omega)))⟩, by dsimp only; omega⟩
    · obtain rfl : k = r.send.length := by omega
      rw [List.take_length]
      have hap : ¬ apB c r x := by unfold apB; rw [if_neg hcor]; exact nIff hb
      refine ⟨?_, rfl⟩
      rw [decide_eq_false hap, apC_f hcor, if_pos hwr]
      rfl
  · conv => whnf
    refine cmpI (fun g1 => ?_) (fun g1 => ?_) <;> conv => whnf
    · have hm := hse k (by omega)
      have hbb := bumpL_b (r.send.take k) c.faulty 1048576 (inR_all h.sent.2) (r.send.getD k 0).toNat
      have htl : (r.send.take k).length ≤ 60 := by rw [List.length_take]; omega
      have hup := bumpL_up (l := c.faulty) (ms := r.send) (k := k) (by omega)
      refine cmpF hcor ?_
      conv => whnf
      refine drawI (by decide +kernel) ?_
      conv => whnf
      refine needI (by omega) ?_
      rw [Int.toNat_natCast]
      conv => whnf
      refine needI (by omega) ?_
      conv => whnf
      refine arI trivial (by omega) ?_
      conv => whnf
      refine needI (by omega) ?_
      conv => whnf
      refine rowSetI _ rfl ?_
      rw [← hup]
      conv => whnf
      refine drawI (by decide +kernel) ?_
      conv => whnf
      refine needI (by omega) ?_
      rw [Int.toNat_natCast]
      conv => whnf
      refine needI (by omega) ?_
      conv => whnf
      refine cmpI (fun g2 => ?_) (fun g2 => ?_) <;> conv => whnf
      · repeat' (first
            | (refine needI (by first | omega | (dsimp only; omega)) ?_; conv => whnf)
            | (refine arI trivial (by omega) ?_; conv => whnf)
            | (refine cmpT (by omega) ?_; conv => whnf)
            | (refine cmpF (by omega) ?_; conv => whnf)
            | fail)
        exact ⟨(k + 1, true), (Sub.id_ 400 rfl auto_ auto_), ⟨by dsimp only; omega, iffT (snd_up (hb.1 rfl) g2)⟩, by dsimp only; omega⟩
      · repeat' (first
            | (refine needI (by first | omega | (dsimp only; omega)) ?_; conv => whnf)
            | (refine arI trivial (by omega) ?_; conv => whnf)
            | (refine cmpT (by omega) ?_; conv => whnf)
            | (refine cmpF (by omega) ?_; conv => whnf)
            | fail)
        exact ⟨(k + 1, false), (Sub.id_ 400 rfl auto_ auto_), ⟨by dsimp only; omega, iffF (fun hh => g2 (hh k (by omega)))⟩, by dsimp only; omega⟩
    · obtain rfl : k = r.send.length := by omega
      rw [List.take_length]
      have hap : apB c r x := by unfold apB; rw [if_neg hcor]; exact hb.1 rfl
      refine ⟨?_, rfl⟩
      rw [decide_eq_true hap, apC_f hcor, if_pos hwr]
      rfl
theorem applyR3wt (p : Pro) (s : Siz) (c : Cfg) (x : Stp) (h : Rdy p s c) (he : enB p s c x false) (hk0 : (p.rules.getD x.rule.toNat rul0).kind = 3) (hwr0 : (p.rules.getD x.rule.toNat rul0).write ≠ -1) (hcor0 : x.process < c.correct) : PSpec Tryz.prog 135 [.agg (encP p), .agg (encC c), .agg (encX x)] (fun u => u = .tup [.agg (encC (apC c (p.rules.getD x.rule.toNat rul0) x)), .bool (decide (apB c (p.rules.getD x.rule.toNat rul0) x))]) := by
  have hle := bigP_le h.big
  have hc := wide_le h.wide
  obtain ⟨hin, hen⟩ := he
  have hR := valid_rule h.val (i := x.rule.toNat) (by omega)
  have hB := bigP_rule h.big (j := x.rule.toNat) (by omega)
  have hsn := h.vc.snl
  have hfa := h.vc.fal
  have hsta := h.vc.sta
  refine PSpec.intro tt_ok mx_ok Tryz.func135 rfl (by decide) ?_; (conv => whnf)
  refine boxP rfl ?_
  conv => whnf
  refine boxP rfl ?_
  conv => whnf
  refine boxP rfl ?_
  conv => whnf
  refine drawF (by decide +kernel) ?_
  conv => whnf
  refine needI (by omega) ?_
  generalize p.rules.getD x.rule.toNat rul0 = r at hen hR hB hk0 hwr0 ⊢
  have hwr := hwr0
  have hcor := hcor0
  have hbr := bigR_le hB
  have hrd := hR.read
  have hfit := hR.fit
  unfold fitB at hfit
  have hse := hR.send
  conv => whnf
  refine callLN 400 (lmC 1001 1002 1003 1004) (memC c) (cfgL c) (copyL c h.wide) (auto_) rfl rfl outC ?_
  conv => whnf
  have hpl : x.process.toNat < c.states.length := by omega
  have hpc : ((x.process.toNat : Nat) : Int) = x.process := by omega
  have k3 := hk0
  obtain ⟨hrl, hri⟩ := hR.resp k3
  repeat' (first
      | (refine needI (by first | omega | (dsimp only; omega)) ?_; conv => whnf)
      | (refine arI trivial (by omega) ?_; conv => whnf)
      | (refine cmpT (by omega) ?_; conv => whnf)
      | (refine cmpF (by omega) ?_; conv => whnf)
      | fail)
  refine WPc.loopF tt_ok mx_ok (fun z : Nat × List Int => z.1 ≤ c.states.length ∧ z.2.length = c.states.length ∧ ∀ j, j < c.states.length → z.2.getD j 0 = if j < z.1 then r.response.getD (c.states.getD j 0).toNat 0 else c.states.getD j 0) (fun z => [(10, .int .i64 (z.1 : Int))]) (fun z => apM2 c r c.value z.2 c.sent c.faulty) (fun z => c.states.length - z.1) (0, c.states) ⟨Nat.zero_le _, rfl, fun j hj => by
    dsimp only
    rw [if_neg (by omega)]⟩ ?_; conv => whnf
  refine ⟨(Sub.id_ 400 rfl auto_ auto_), ?_⟩
  rintro ⟨k, l⟩ ⟨h1, h2, h3⟩
  dsimp only at h1 h2 h3 ⊢
  conv => whnf
  refine cmpI (fun g1 => ?_) (fun g1 => ?_) <;> conv => whnf
  case' refine_1 =>
    have hy := hsta k (by omega)
    refine drawR (by decide +kernel) ?_
    conv => whnf
    refine needI (by omega) ?_
    rw [Int.toNat_natCast]
    conv => whnf
    refine needI (by omega) ?_
    conv => whnf
    refine needI (by omega) ?_
    conv => whnf
    refine rowSetI _ rfl ?_
    rw [Int.toNat_natCast]
    conv => whnf
    repeat' (first
        | (refine needI (by first | omega | (dsimp only; omega)) ?_; conv => whnf)
        | (refine arI trivial (by omega) ?_; conv => whnf)
        | (refine cmpT (by omega) ?_; conv => whnf)
        | (refine cmpF (by omega) ?_; conv => whnf)
        | fail)
    refine ⟨(k + 1, l.set k (r.response.getD (c.states.getD k 0).toNat 0)), (Sub.id_ 400 rfl auto_ auto_), ⟨by dsimp only; omega, by simpa using h2, fun j hj => ?_⟩, by dsimp only; omega⟩
    dsimp only
    rw [getD_set]
    by_cases e : k = j
    · subst e; rw [if_pos ⟨rfl, by omega⟩, if_pos (by omega)]
    · rw [if_neg (fun h => e h.1), h3 j hj]
      by_cases e3 : j < k
      · rw [if_pos e3, if_pos (by omega)]
      · rw [if_neg e3, if_neg (by omega)]
  have hst : l.set x.process.toNat r.dst = stN c r x := st_of (by simpa using h2) fun j hj => by
    rw [getD_set]
    unfold stG
    by_cases e : x.process.toNat = j
    · rw [if_pos ⟨e, by omega⟩, if_pos (by omega)]
    · rw [if_neg (fun h => e h.1), h3 j hj, if_pos (by omega), if_neg (show ¬ (j : Int) = x.process by omega), if_neg (by omega), if_pos k3]
  repeat' (first
      | (refine needI (by first | omega | (dsimp only; omega)) ?_; conv => whnf)
      | (refine arI trivial (by omega) ?_; conv => whnf)
      | (refine cmpT (by omega) ?_; conv => whnf)
      | (refine cmpF (by omega) ?_; conv => whnf)
      | fail)
  refine rowSetI _ rfl ?_
  rw [hst]
  conv => whnf
  refine cmpT (by omega) ?_
  conv => whnf
  refine WPc.loopF tt_ok mx_ok (fun z : Nat × Bool => z.1 ≤ r.send.length ∧ (z.2 = true ↔ ∀ j, j < z.1 → (bumpL c.sent (r.send.take (j + 1))).getD (r.send.getD j 0).toNat 0 ≤ 1048576)) (fun z => [(12, .int .i64 (z.1 : Int)), (11, .bool z.2)]) (fun z => apM2 c r r.write (stN c r x) (bumpL c.sent (r.send.take z.1)) c.faulty) (fun z => r.send.length - z.1) (0, true) ⟨Nat.zero_le _, iffT (fun j hj => by dsimp only at hj; omega)⟩ ?_; conv => whnf
  refine ⟨(Sub.id_ 400 rfl auto_ auto_), ?_⟩
  rintro ⟨k, b⟩ ⟨hk, hb⟩
  dsimp only at hk hb ⊢
  cases b
  · conv => whnf
    refine cmpI (fun g1 => ?_) (fun g1 => ?_) <;> conv => whnf
    · have hm := hse k (by omega)
      have hbb := bumpL_b (r.send.take k) c.sent 1048576 (inR_all h.sent.1) (r.send.getD k 0).toNat
      have htl : (r.send.take k).length ≤ 60 := by rw [List.length_take]; omega
      have hup := bumpL_up (l := c.sent) (ms := r.send) (k := k) (by omega)
      refine cmpT hcor ?_
      conv => whnf
      refine drawI (by decide +kernel) ?_
      conv => whnf
      refine needI (by omega) ?_
      rw [Int.toNat_natCast]
      conv => whnf
      refine needI (by omega) ?_
      conv => whnf
      refine arI trivial (by omega) ?_
      conv => whnf
      refine needI (by omega) ?_
      conv => whnf
      refine rowSetI _ rfl ?_
      rw [← hup]
      conv => whnf
      refine drawI (by decide +kernel) ?_
      conv => whnf
      repeat' (first
          | (refine needI (by first | omega | (dsimp only; omega)) ?_; conv => whnf)
          | (refine arI trivial (by omega) ?_; conv => whnf)
          | (refine cmpT (by omega) ?_; conv => whnf)
          | (refine cmpF (by omega) ?_; conv => whnf)
          | fail)
      exact ⟨(k + 1, false), (Sub.id_ 400 rfl auto_ auto_), ⟨by dsimp only; omega, iffF (fun hh => nIff hb (fun j hj => hh j (by omega)))⟩, by dsimp only; omega⟩
    · obtain rfl : k = r.send.length := by omega
      rw [List.take_length]
      have hap : ¬ apB c r x := by unfold apB; rw [if_pos hcor]; exact nIff hb
      refine ⟨?_, rfl⟩
      rw [decide_eq_false hap, apC_t hcor, if_neg hwr]
      rfl
  · conv => whnf
    refine cmpI (fun g1 => ?_) (fun g1 => ?_) <;> conv => whnf
    · have hm := hse k (by omega)
      have hbb := bumpL_b (r.send.take k) c.sent 1048576 (inR_all h.sent.1) (r.send.getD k 0).toNat
      have htl : (r.send.take k).length ≤ 60 := by rw [List.length_take]; omega
      have hup := bumpL_up (l := c.sent) (ms := r.send) (k := k) (by omega)
      refine cmpT hcor ?_
      conv => whnf
      refine drawI (by decide +kernel) ?_
      conv => whnf
      refine needI (by omega) ?_
      rw [Int.toNat_natCast]
      conv => whnf
      refine needI (by omega) ?_
      conv => whnf
      refine arI trivial (by omega) ?_
      conv => whnf
      refine needI (by omega) ?_
      conv => whnf
      refine rowSetI _ rfl ?_
      rw [← hup]
      conv => whnf
      refine drawI (by decide +kernel) ?_
      conv => whnf
      refine needI (by omega) ?_
      rw [Int.toNat_natCast]
      conv => whnf
      refine needI (by omega) ?_
      conv => whnf
      refine cmpI (fun g2 => ?_) (fun g2 => ?_) <;> conv => whnf
      · repeat' (first
            | (refine needI (by first | omega | (dsimp only; omega)) ?_; conv => whnf)
            | (refine arI trivial (by omega) ?_; conv => whnf)
            | (refine cmpT (by omega) ?_; conv => whnf)
            | (refine cmpF (by omega) ?_; conv => whnf)
            | fail)
        exact ⟨(k + 1, true), (Sub.id_ 400 rfl auto_ auto_), ⟨by dsimp only; omega, iffT (snd_up (hb.1 rfl) g2)⟩, by dsimp only; omega⟩
      · repeat' (first
            | (refine needI (by first | omega | (dsimp only; omega)) ?_; conv => whnf)
            | (refine arI trivial (by omega) ?_; conv => whnf)
            | (refine cmpT (by omega) ?_; conv => whnf)
            | (refine cmpF (by omega) ?_; conv => whnf)
            | fail)
        exact ⟨(k + 1, false), (Sub.id_ 400 rfl auto_ auto_), ⟨by dsimp only; omega, iffF (fun hh => g2 (hh k (by omega)))⟩, by dsimp only; omega⟩
    · obtain rfl : k = r.send.length := by omega
      rw [List.take_length]
      have hap : apB c r x := by unfold apB; rw [if_pos hcor]; exact hb.1 rfl
      refine ⟨?_, rfl⟩
      rw [decide_eq_true hap, apC_t hcor, if_neg hwr]
      rfl
theorem applyR3wf (p : Pro) (s : Siz) (c : Cfg) (x : Stp) (h : Rdy p s c) (he : enB p s c x false) (hk0 : (p.rules.getD x.rule.toNat rul0).kind = 3) (hwr0 : (p.rules.getD x.rule.toNat rul0).write ≠ -1) (hcor0 : ¬ x.process < c.correct) : PSpec Tryz.prog 135 [.agg (encP p), .agg (encC c), .agg (encX x)] (fun u => u = .tup [.agg (encC (apC c (p.rules.getD x.rule.toNat rul0) x)), .bool (decide (apB c (p.rules.getD x.rule.toNat rul0) x))]) := by
  have hle := bigP_le h.big
  have hc := wide_le h.wide
  obtain ⟨hin, hen⟩ := he
  have hR := valid_rule h.val (i := x.rule.toNat) (by omega)
  have hB := bigP_rule h.big (j := x.rule.toNat) (by omega)
  have hsn := h.vc.snl
  have hfa := h.vc.fal
  have hsta := h.vc.sta
  refine PSpec.intro tt_ok mx_ok Tryz.func135 rfl (by decide) ?_; (conv => whnf)
  refine boxP rfl ?_
  conv => whnf
  refine boxP rfl ?_
  conv => whnf
  refine boxP rfl ?_
  conv => whnf
  refine drawF (by decide +kernel) ?_
  conv => whnf
  refine needI (by omega) ?_
  generalize p.rules.getD x.rule.toNat rul0 = r at hen hR hB hk0 hwr0 ⊢
  have hwr := hwr0
  have hcor := hcor0
  have hbr := bigR_le hB
  have hrd := hR.read
  have hfit := hR.fit
  unfold fitB at hfit
  have hse := hR.send
  conv => whnf
  refine callLN 400 (lmC 1001 1002 1003 1004) (memC c) (cfgL c) (copyL c h.wide) (auto_) rfl rfl outC ?_
  conv => whnf
  have hpl : x.process.toNat < c.states.length := by omega
  have hpc : ((x.process.toNat : Nat) : Int) = x.process := by omega
  have k3 := hk0
  obtain ⟨hrl, hri⟩ := hR.resp k3
  repeat' (first
      | (refine needI (by first | omega | (dsimp only; omega)) ?_; conv => whnf)
      | (refine arI trivial (by omega) ?_; conv => whnf)
      | (refine cmpT (by omega) ?_; conv => whnf)
      | (refine cmpF (by omega) ?_; conv => whnf)
      | fail)
  refine WPc.loopF tt_ok mx_ok (fun z : Nat × List Int => z.1 ≤ c.states.length ∧ z.2.length = c.states.length ∧ ∀ j, j < c.states.length → z.2.getD j 0 = if j < z.1 then r.response.getD (c.states.getD j 0).toNat 0 else c.states.getD j 0) (fun z => [(10, .int .i64 (z.1 : Int))]) (fun z => apM2 c r c.value z.2 c.sent c.faulty) (fun z => c.states.length - z.1) (0, c.states) ⟨Nat.zero_le _, rfl, fun j hj => by
    dsimp only
    rw [if_neg (by omega)]⟩ ?_; conv => whnf
  refine ⟨(Sub.id_ 400 rfl auto_ auto_), ?_⟩
  rintro ⟨k, l⟩ ⟨h1, h2, h3⟩
  dsimp only at h1 h2 h3 ⊢
  conv => whnf
  refine cmpI (fun g1 => ?_) (fun g1 => ?_) <;> conv => whnf
  case' refine_1 =>
    have hy := hsta k (by omega)
    refine drawR (by decide +kernel) ?_
    conv => whnf
    refine needI (by omega) ?_
    rw [Int.toNat_natCast]
    conv => whnf
    refine needI (by omega) ?_
    conv => whnf
    refine needI (by omega) ?_
    conv => whnf
    refine rowSetI _ rfl ?_
    rw [Int.toNat_natCast]
    conv => whnf
    repeat' (first
        | (refine needI (by first | omega | (dsimp only; omega)) ?_; conv => whnf)
        | (refine arI trivial (by omega) ?_; conv => whnf)
        | (refine cmpT (by omega) ?_; conv => whnf)
        | (refine cmpF (by omega) ?_; conv => whnf)
        | fail)
    refine ⟨(k + 1, l.set k (r.response.getD (c.states.getD k 0).toNat 0)), (Sub.id_ 400 rfl auto_ auto_), ⟨by dsimp only; omega, by simpa using h2, fun j hj => ?_⟩, by dsimp only; omega⟩
    dsimp only
    rw [getD_set]
    by_cases e : k = j
    · subst e; rw [if_pos ⟨rfl, by omega⟩, if_pos (by omega)]
    · rw [if_neg (fun h => e h.1), h3 j hj]
      by_cases e3 : j < k
      · rw [if_pos e3, if_pos (by omega)]
      · rw [if_neg e3, if_neg (by omega)]
  have hst : l.set x.process.toNat r.dst = stN c r x := st_of (by simpa using h2) fun j hj => by
    rw [getD_set]
    unfold stG
    by_cases e : x.process.toNat = j
    · rw [if_pos ⟨e, by omega⟩, if_pos (by omega)]
    · rw [if_neg (fun h => e h.1), h3 j hj, if_pos (by omega), if_neg (show ¬ (j : Int) = x.process by omega), if_neg (by omega), if_pos k3]
  repeat' (first
      | (refine needI (by first | omega | (dsimp only; omega)) ?_; conv => whnf)
      | (refine arI trivial (by omega) ?_; conv => whnf)
      | (refine cmpT (by omega) ?_; conv => whnf)
      | (refine cmpF (by omega) ?_; conv => whnf)
      | fail)
  refine rowSetI _ rfl ?_
  rw [hst]
  conv => whnf
  refine cmpT (by omega) ?_
  conv => whnf
  refine WPc.loopF tt_ok mx_ok (fun z : Nat × Bool => z.1 ≤ r.send.length ∧ (z.2 = true ↔ ∀ j, j < z.1 → (bumpL c.faulty (r.send.take (j + 1))).getD (r.send.getD j 0).toNat 0 ≤ 1048576)) (fun z => [(12, .int .i64 (z.1 : Int)), (11, .bool z.2)]) (fun z => apM2 c r r.write (stN c r x) c.sent (bumpL c.faulty (r.send.take z.1))) (fun z => r.send.length - z.1) (0, true) ⟨Nat.zero_le _, iffT (fun j hj => by dsimp only at hj; omega)⟩ ?_; conv => whnf
  refine ⟨(Sub.id_ 400 rfl auto_ auto_), ?_⟩
  rintro ⟨k, b⟩ ⟨hk, hb⟩
  dsimp only at hk hb ⊢
  cases b
  · conv => whnf
    refine cmpI (fun g1 => ?_) (fun g1 => ?_) <;> conv => whnf
    · have hm := hse k (by omega)
      have hbb := bumpL_b (r.send.take k) c.faulty 1048576 (inR_all h.sent.2) (r.send.getD k 0).toNat
      have htl : (r.send.take k).length ≤ 60 := by rw [List.length_take]; omega
      have hup := bumpL_up (l := c.faulty) (ms := r.send) (k := k) (by omega)
      refine cmpF hcor ?_
      conv => whnf
      refine drawI (by decide +kernel) ?_
      conv => whnf
      refine needI (by omega) ?_
      rw [Int.toNat_natCast]
      conv => whnf
      refine needI (by omega) ?_
      conv => whnf
      refine arI trivial (by omega) ?_
      conv => whnf
      refine needI (by omega) ?_
      conv => whnf
      refine rowSetI _ rfl ?_
      rw [← hup]
      conv => whnf
      refine drawI (by decide +kernel) ?_
      conv => whnf
      repeat' (first
          | (refine needI (by first | omega | (dsimp only; omega)) ?_; conv => whnf)
          | (refine arI trivial (by omega) ?_; conv => whnf)
          | (refine cmpT (by omega) ?_; conv => whnf)
          | (refine cmpF (by omega) ?_; conv => whnf)
          | fail)
      exact ⟨(k + 1, false), (Sub.id_ 400 rfl auto_ auto_), ⟨by dsimp only; omega, iffF (fun hh => nIff hb (fun j hj => hh j (by omega)))⟩, by dsimp only; omega⟩
    · obtain rfl : k = r.send.length := by omega
      rw [List.take_length]
      have hap : ¬ apB c r x := by unfold apB; rw [if_neg hcor]; exact nIff hb
      refine ⟨?_, rfl⟩
      rw [decide_eq_false hap, apC_f hcor, if_neg hwr]
      rfl
  · conv => whnf
    refine cmpI (fun g1 => ?_) (fun g1 => ?_) <;> conv => whnf
    · have hm := hse k (by omega)
      have hbb := bumpL_b (r.send.take k) c.faulty 1048576 (inR_all h.sent.2) (r.send.getD k 0).toNat
      have htl : (r.send.take k).length ≤ 60 := by rw [List.length_take]; omega
      have hup := bumpL_up (l := c.faulty) (ms := r.send) (k := k) (by omega)
      refine cmpF hcor ?_
      conv => whnf
      refine drawI (by decide +kernel) ?_
      conv => whnf
      refine needI (by omega) ?_
      rw [Int.toNat_natCast]
      conv => whnf
      refine needI (by omega) ?_
      conv => whnf
      refine arI trivial (by omega) ?_
      conv => whnf
      refine needI (by omega) ?_
      conv => whnf
      refine rowSetI _ rfl ?_
      rw [← hup]
      conv => whnf
      refine drawI (by decide +kernel) ?_
      conv => whnf
      refine needI (by omega) ?_
      rw [Int.toNat_natCast]
      conv => whnf
      refine needI (by omega) ?_
      conv => whnf
      refine cmpI (fun g2 => ?_) (fun g2 => ?_) <;> conv => whnf
      · repeat' (first
            | (refine needI (by first | omega | (dsimp only; omega)) ?_; conv => whnf)
            | (refine arI trivial (by omega) ?_; conv => whnf)
            | (refine cmpT (by omega) ?_; conv => whnf)
            | (refine cmpF (by omega) ?_; conv => whnf)
            | fail)
        exact ⟨(k + 1, true), (Sub.id_ 400 rfl auto_ auto_), ⟨by dsimp only; omega, iffT (snd_up (hb.1 rfl) g2)⟩, by dsimp only; omega⟩
      · repeat' (first
            | (refine needI (by first | omega | (dsimp only; omega)) ?_; conv => whnf)
            | (refine arI trivial (by omega) ?_; conv => whnf)
            | (refine cmpT (by omega) ?_; conv => whnf)
            | (refine cmpF (by omega) ?_; conv => whnf)
            | fail)
        exact ⟨(k + 1, false), (Sub.id_ 400 rfl auto_ auto_), ⟨by dsimp only; omega, iffF (fun hh => g2 (hh k (by omega)))⟩, by dsimp only; omega⟩
    · obtain rfl : k = r.send.length := by omega
      rw [List.take_length]
      have hap : apB c r x := by unfold apB; rw [if_neg hcor]; exact hb.1 rfl
      refine ⟨?_, rfl⟩
      rw [decide_eq_true hap, apC_f hcor, if_neg hwr]
      rfl
theorem applyR (p : Pro) (s : Siz) (c : Cfg) (x : Stp) (h : Rdy p s c) (he : enB p s c x false) : PSpec Tryz.prog 135 [.agg (encP p), .agg (encC c), .agg (encX x)] (fun u => u = .tup [.agg (encC (apC c (p.rules.getD x.rule.toNat rul0) x)), .bool (decide (apB c (p.rules.getD x.rule.toNat rul0) x))]) := by
  have hfit := (valid_rule h.val (i := x.rule.toNat) (by have := he.1; omega)).fit
  unfold fitB at hfit
  have hcase : ((p.rules.getD x.rule.toNat rul0).kind = 1 ∨ (p.rules.getD x.rule.toNat rul0).kind = 4) ∨ (p.rules.getD x.rule.toNat rul0).kind = 2 ∨ (p.rules.getD x.rule.toNat rul0).kind = 5 ∨ (p.rules.getD x.rule.toNat rul0).kind = 3 := by omega
  by_cases hw : (p.rules.getD x.rule.toNat rul0).write = -1 <;> by_cases hcor : x.process < c.correct <;> rcases hcase with k | k | k | k
  · exact applyR1nt p s c x h he k hw hcor
  · exact applyR2nt p s c x h he k hw hcor
  · exact applyR5nt p s c x h he k hw hcor
  · exact applyR3nt p s c x h he k hw hcor
  · exact applyR1nf p s c x h he k hw hcor
  · exact applyR2nf p s c x h he k hw hcor
  · exact applyR5nf p s c x h he k hw hcor
  · exact applyR3nf p s c x h he k hw hcor
  · exact applyR1wt p s c x h he k hw hcor
  · exact applyR2wt p s c x h he k hw hcor
  · exact applyR5wt p s c x h he k hw hcor
  · exact applyR3wt p s c x h he k hw hcor
  · exact applyR1wf p s c x h he k hw hcor
  · exact applyR2wf p s c x h he k hw hcor
  · exact applyR5wf p s c x h he k hw hcor
  · exact applyR3wf p s c x h he k hw hcor

/-! ### Apply -/
theorem ApplyR_e (p : Pro) (s : Siz) (c : Cfg) (x : Stp) (hp : ¬ bigP p) (hw : wideB c = false) (h1 : vconE p s c ≠ 0) : PSpec Tryz.prog 93 [.agg (encP p), .agg (encZ s), .agg (encC c), .agg (encX x)] (fun u => u = .tup [.agg (encC cfg0), .int .i64 (vconE p s c)]) := by
  refine PSpec.sub (R := fun u => u = .tup [.agg cfgN, .int .i64 (vconE p s c)]) ?_ (by rintro _ rfl; exact ⟨_, rfl, auto_, rfl⟩)
  refine PSpec.intro tt_ok mx_ok Tryz.func93 rfl (by decide) ?_; (conv => whnf)
  refine boxP rfl ?_
  conv => whnf
  refine boxP rfl ?_
  conv => whnf
  refine boxP rfl ?_
  conv => whnf
  refine boxP rfl ?_
  conv => whnf
  (refine Spec.of_pure (n := 5) (ValidConfigR p s c hp hw) rfl ?_; rintro _ rfl; conv => whnf)
  refine cmpT h1 ?_
  conv => whnf
  exact ⟨rfl, rfl⟩
theorem ApplyR_s (p : Pro) (s : Siz) (c : Cfg) (x : Stp) (hp : ¬ bigP p) (hw : wideB c = false) (h1 : vconE p s c = 0) (hn : ¬ enB p s c x false) : PSpec Tryz.prog 93 [.agg (encP p), .agg (encZ s), .agg (encC c), .agg (encX x)] (fun u => u = .tup [.agg (encC cfg0), .int .i64 9]) := by
  refine PSpec.sub (R := fun u => u = .tup [.agg cfgN, .int .i64 9]) ?_ (by rintro _ rfl; exact ⟨_, rfl, auto_, rfl⟩)
  have h := Rdy.of hp hw h1
  refine PSpec.intro tt_ok mx_ok Tryz.func93 rfl (by decide) ?_; (conv => whnf)
  refine boxP rfl ?_
  conv => whnf
  refine boxP rfl ?_
  conv => whnf
  refine boxP rfl ?_
  conv => whnf
  refine boxP rfl ?_
  conv => whnf
  (refine Spec.of_pure (n := 5) (ValidConfigR p s c hp hw) rfl ?_; rintro _ rfl; conv => whnf)
  refine cmpF (by omega) ?_
  conv => whnf
  refine Spec.dcall (n := 5) (enabledR p s c x false h) rfl (fun _ => ?_) (fun _ => ?_) <;> (conv => whnf)
  · rename_i he; exact absurd he hn
  exact ⟨rfl, rfl⟩
theorem ApplyR_k (p : Pro) (s : Siz) (c : Cfg) (x : Stp) (hp : ¬ bigP p) (hw : wideB c = false) (h1 : vconE p s c = 0) (he : enB p s c x false) (ha : apB c (p.rules.getD x.rule.toNat rul0) x) : PSpec Tryz.prog 93 [.agg (encP p), .agg (encZ s), .agg (encC c), .agg (encX x)] (fun u => u = .tup [.agg (encC (apC c (p.rules.getD x.rule.toNat rul0) x)), .int .i64 0]) := by
  have h := Rdy.of hp hw h1
  refine PSpec.intro tt_ok mx_ok Tryz.func93 rfl (by decide) ?_; (conv => whnf)
  refine boxP rfl ?_
  conv => whnf
  refine boxP rfl ?_
  conv => whnf
  refine boxP rfl ?_
  conv => whnf
  refine boxP rfl ?_
  conv => whnf
  (refine Spec.of_pure (n := 5) (ValidConfigR p s c hp hw) rfl ?_; rintro _ rfl; conv => whnf)
  refine cmpF (by omega) ?_
  conv => whnf
  refine Spec.dcall (n := 5) (enabledR p s c x false h) rfl (fun _ => ?_) (fun _ => ?_) <;> (conv => whnf)
  case refine_2 => rename_i hn; exact absurd he hn
  have hA := applyR p s c x h he
  rw [decide_eq_true ha] at hA
  (refine Spec.of_pure (n := 5) (hA) rfl ?_; rintro _ rfl; conv => whnf)
  exact ⟨rfl, rfl⟩
theorem ApplyR_l (p : Pro) (s : Siz) (c : Cfg) (x : Stp) (hp : ¬ bigP p) (hw : wideB c = false) (h1 : vconE p s c = 0) (he : enB p s c x false) (ha : ¬ apB c (p.rules.getD x.rule.toNat rul0) x) : PSpec Tryz.prog 93 [.agg (encP p), .agg (encZ s), .agg (encC c), .agg (encX x)] (fun u => u = .tup [.agg (encC cfg0), .int .i64 4]) := by
  refine PSpec.sub (R := fun u => u = .tup [.agg cfgN, .int .i64 4]) ?_ (by rintro _ rfl; exact ⟨_, rfl, auto_, rfl⟩)
  have h := Rdy.of hp hw h1
  refine PSpec.intro tt_ok mx_ok Tryz.func93 rfl (by decide) ?_; (conv => whnf)
  refine boxP rfl ?_
  conv => whnf
  refine boxP rfl ?_
  conv => whnf
  refine boxP rfl ?_
  conv => whnf
  refine boxP rfl ?_
  conv => whnf
  (refine Spec.of_pure (n := 5) (ValidConfigR p s c hp hw) rfl ?_; rintro _ rfl; conv => whnf)
  refine cmpF (by omega) ?_
  conv => whnf
  refine Spec.dcall (n := 5) (enabledR p s c x false h) rfl (fun _ => ?_) (fun _ => ?_) <;> (conv => whnf)
  case refine_2 => rename_i hn; exact absurd he hn
  have hA := applyR p s c x h he
  rw [decide_eq_false ha] at hA
  (refine Spec.of_pure (n := 5) (hA) rfl ?_; rintro _ rfl; conv => whnf)
  exact ⟨rfl, rfl⟩
end Go.Proofs.YtcbckmnbdcjeeaaGreatDoor
