
/-
  Canonical forms and counts, by the program and by the document's answer.
-/
import Derived.Test.YtcbckmnbdcjeeaaGreatDoorFpN
import Derived.Test.YtcbckmnbdcjeeaaGreatDoorFoNa
import Derived.Test.YtcbckmnbdcjeeaaGreatDoorFpO
set_option linter.unusedVariables false
set_option linter.unusedSimpArgs false
namespace Go.Proofs.YtcbckmnbdcjeeaaGreatDoor
set_option maxRecDepth 100000
set_option maxHeartbeats 16000000

theorem sortedL (l : List Int) (hl : l.length ≤ 1000000) : Spec Tryz.prog 73 [.sl 0 encI l] (Mem.ofL []) (fun u M => u = .row 1005 l.length 1 ∧ M 1005 = some (rowN (srtI l))) := by
  refine Spec.intro tt_ok mx_ok [] Tryz.func73 rfl (by decide) ?_
  conv => whnf
  refine Spec.news 400 [(1005, .old 5)] [(1005, rowN l)] (.row 1005 l.length 1) (copyIntsL l hl) (auto_) rfl out1 ?_
  conv => whnf
  refine WPc.loopF tt_ok mx_ok (fun x : Nat × List Int => (1 ≤ x.1 ∧ x.1 ≤ l.length + 1) ∧ x.2.Perm l ∧ ∀ a b, a < b → b < x.1 → b < l.length → x.2.getD a 0 ≤ x.2.getD b 0) (fun x => [(4, .int .i64 (x.1 : Int))]) (fun x => [(1005, rowN x.2)]) (fun x => l.length + 1 - x.1) (1, l) ⟨⟨by dsimp only; omega, by dsimp only; omega⟩, List.Perm.refl _, fun a b h1 h2 => by dsimp only at h2; omega⟩ ?_; conv => whnf
  refine ⟨(Sub.id_ 400 rfl auto_ auto_), ?_⟩
  rintro ⟨i, m⟩ ⟨⟨hi1, hi2⟩, hm, hs⟩
  dsimp only at hi1 hi2 hm hs ⊢
  have hml := hm.length_eq
  conv => whnf
  refine cmpI (fun g1 => ?_) (fun g1 => ?_) <;> conv => whnf
  case refine_2 =>
    have e : m = srtI l := srtI_of hm (List.pairwise_iff_getElem.2 fun a b ha hb hab => by
      have := hs a b hab (by omega) (by omega)
      rw [List.getD_eq_getElem?_getD, List.getD_eq_getElem?_getD, List.getElem?_eq_getElem ha, List.getElem?_eq_getElem hb] at this
      exact this)
    subst e
    exact ⟨rfl, rfl⟩
  refine WPc.loopF tt_ok mx_ok (fun y : Nat × List Int => y.1 ≤ i ∧ y.2.Perm l ∧ InsInv y.2 i y.1) (fun y => [(5, .int .i64 (y.1 : Int))]) (fun y => [(1005, rowN y.2)]) (fun y => y.1) (i, m) ⟨Nat.le_refl _, hm, InsInv.start (fun a b h1 h2 => hs a b h1 h2 (by omega))⟩ ?_; conv => whnf
  refine ⟨(Sub.id_ 400 rfl auto_ auto_), ?_⟩
  rintro ⟨k, y⟩ ⟨hk, hy, hI⟩
  dsimp only at hk hy hI ⊢
  have hyl := hy.length_eq
  have stop : (k = 0 ∨ y.getD (k - 1) 0 ≤ y.getD k 0) → ∀ a b, a < b → b < i + 1 → b < l.length → y.getD a 0 ≤ y.getD b 0 := fun h a b h1 h2 _ => hI.stop hk h a b h1 h2
  conv => whnf
  refine drawI (by decide +kernel) ?_
  conv => whnf
  refine cmpI (fun g2 => ?_) (fun g2 => ?_) <;> conv => whnf
  case refine_2 =>
    repeat' (first
        | (refine needI (by first | omega | (dsimp only; omega)) ?_; conv => whnf)
        | (refine arI trivial (by omega) ?_; conv => whnf)
        | (refine cmpT (by omega) ?_; conv => whnf)
        | (refine cmpF (by omega) ?_; conv => whnf)
        | fail)
    exact ⟨(i + 1, y), (Sub.id_ 400 rfl auto_ auto_), ⟨⟨by dsimp only; omega, by dsimp only; omega⟩, hy, stop (.inl (by omega))⟩, by dsimp only; omega⟩
  refine arI trivial (by omega) ?_
  conv => whnf
  refine needI (by omega) ?_
  conv => whnf
  refine needI (by omega) ?_
  conv => whnf
  rw [Int.toNat_natCast, show ((k : Int) - 1).toNat = k - 1 by omega]
  refine cmpI (fun g3 => ?_) (fun g3 => ?_) <;> conv => whnf
  case refine_2 =>
    repeat' (first
        | (refine needI (by first | omega | (dsimp only; omega)) ?_; conv => whnf)
        | (refine arI trivial (by omega) ?_; conv => whnf)
        | (refine cmpT (by omega) ?_; conv => whnf)
        | (refine cmpF (by omega) ?_; conv => whnf)
        | fail)
    exact ⟨(i + 1, y), (Sub.id_ 400 rfl auto_ auto_), ⟨⟨by dsimp only; omega, by dsimp only; omega⟩, hy, stop (.inr (by omega))⟩, by dsimp only; omega⟩
  refine drawI (by decide +kernel) ?_
  conv => whnf
  refine arI trivial (by omega) ?_
  conv => whnf
  refine needI (by omega) ?_
  conv => whnf
  refine arI trivial (by omega) ?_
  conv => whnf
  refine needI (by omega) ?_
  conv => whnf
  refine needI (by omega) ?_
  conv => whnf
  refine rowSetI _ rfl ?_
  conv => whnf
  refine needI (by omega) ?_
  conv => whnf
  refine rowSetI _ rfl ?_
  conv => whnf
  refine arI trivial (by omega) ?_
  conv => whnf
  have hkk : ((k : Int) - 1).toNat = k - 1 := by omega
  refine ⟨(k - 1, insStep y k), ?_, ⟨by dsimp only; omega, (insStep_perm (by omega) (by omega)).trans hy, hI.step (by omega) hk (by omega) g3⟩, by dsimp only; omega⟩
  rw [hkk, Int.toNat_natCast]
  have hk1 : ((k - 1 : Nat) : Int) = (k : Int) - 1 := by omega
  have hin : (y.set (k - 1) (y.getD k 0)).set k (y.getD (k - 1) 0) = insStep y k := rfl
  rw [hin]
  dsimp only
  rw [← hk1]
  exact (Sub.id_ 400 rfl auto_ auto_)


/-! ### canonical forms -/
theorem outS {l : List Int} {a ℓ : Nat} : ∀ u M', (u = .row a l.length 1 ∧ M' a = some (rowN (srtI l))) → memR [(ℓ, .old a)] 400 M' [(ℓ, rowN (srtI l))] ∧ avR [(ℓ, .old a)] 400 u (.row ℓ l.length 1) := by
  rintro _ M' ⟨rfl, h⟩
  constructor
  · simp [memR, lmFind, blkR, h, rowN]
  · simp [avR, lmFind]
theorem canonicalF (p : Pro) (c : Cfg) (hw : wideB c = false) (hpl : plB p c) : PSpec Tryz.prog 32 [.agg (encP p), .agg (encC c)] (fun u => u = .agg (encC (canC p c))) := by
  have hc := wide_le hw
  obtain ⟨_, h0, h1⟩ := hpl
  by_cases ht : p.topology = 1
  · have hst : srtI (c.states.take c.correct.toNat) ++ srtI (c.states.drop c.correct.toNat) = srtAt (srtAt c.states (Int.toNat 0) (c.correct - 0).toNat) c.correct.toNat ((c.states.length : Int) - c.correct).toNat := by
      rw [Int.sub_zero, show Int.toNat 0 = 0 from rfl, show ((c.states.length : Int) - c.correct).toNat = c.states.length - c.correct.toNat by omega]
      exact srtAt_two (by omega)
    have e : canC p c = ⟨c.shape, srtAt (srtAt c.states (Int.toNat 0) (c.correct - 0).toNat) c.correct.toNat ((c.states.length : Int) - c.correct).toNat, c.correct, c.sent, c.faulty, c.value⟩ := by rw [canC_yes c ht, hst]
    rw [e]
    clear e hst
    refine PSpec.intro tt_ok mx_ok Tryz.func32 rfl (by decide) ?_; (conv => whnf)
    refine boxP rfl ?_
    conv => whnf
    refine boxP rfl ?_
    conv => whnf
    refine Spec.news 400 (lmC 5 9 13 17) (memC c) (cfgL c) (cloneL c hw) (auto_) rfl outC ?_
    conv => whnf
    refine cmpT ht ?_
    conv => whnf
    refine sliceP ?_
    refine needI (by omega) ?_
    conv => whnf
    refine Spec.sort sortP sortA sort0 rfl (by omega) (by omega) ?_
    conv => whnf
    refine needI (by omega) ?_
    conv => whnf
    refine Spec.sort sortP sortA sort0 rfl (by rw [srtAt_len (by omega)]; omega) (by rw [srtAt_len (by omega)]; omega) ?_
    conv => whnf
    exact ⟨rfl, rfl⟩
  · rw [canC_no c ht]
    refine PSpec.intro tt_ok mx_ok Tryz.func32 rfl (by decide) ?_; (conv => whnf)
    refine boxP rfl ?_
    conv => whnf
    refine boxP rfl ?_
    conv => whnf
    refine Spec.news 400 (lmC 5 9 13 17) (memC c) (cfgL c) (cloneL c hw) (auto_) rfl outC ?_
    conv => whnf
    refine cmpF ht ?_
    conv => whnf
    exact ⟨rfl, rfl⟩
theorem canonicalR (p : Pro) (c : Cfg) (hw : wideB c = false) (hpl : plB p c) : PSpec Tryz.prog 33 [.agg (encP p), .agg (encC c)] (fun u => u = .agg (encC (canC p c))) := by
  have hc := wide_le hw
  obtain ⟨_, h0, h1⟩ := hpl
  by_cases ht : p.topology = 1
  · rw [canC_yes c ht]
    have hl1 : (c.states.take c.correct.toNat).length ≤ 100 := by rw [List.length_take]; omega
    have hl2 : (c.states.drop c.correct.toNat).length ≤ 100 := by rw [List.length_drop]; omega
    have hl3 := srtI_len (c.states.take c.correct.toNat)
    have hl4 := srtI_len (c.states.drop c.correct.toNat)
    refine PSpec.intro tt_ok mx_ok Tryz.func33 rfl (by decide) ?_; (conv => whnf)
    refine boxP rfl ?_
    conv => whnf
    refine boxP rfl ?_
    conv => whnf
    refine Spec.news 400 (lmC 1001 1002 1003 1004) (memC c) (cfgL c) (copyL c hw) (auto_) rfl outC ?_
    conv => whnf
    refine cmpT ht ?_
    conv => whnf
    refine drawF (by decide +kernel) ?_
    conv => whnf
    refine needI (by omega) ?_
    conv => whnf
    refine callLN 400 [(1011, .old 1005)] [(1011, rowN (srtI (c.states.take c.correct.toNat)))] (.row 1011 (c.states.take c.correct.toNat).length 1) (sortedL _ (by omega)) (auto_) rfl rfl outS ?_
    conv => whnf
    refine needI (by omega) ?_
    conv => whnf
    refine callLN 400 [(1012, .old 1005)] [(1012, rowN (srtI (c.states.drop c.correct.toNat)))] (.row 1012 (c.states.drop c.correct.toNat).length 1) (sortedL _ (by omega)) (auto_) rfl rfl outS ?_
    conv => whnf
    refine appI _ rfl (by dsimp only; omega) ?_
    conv => whnf
    exact ⟨rfl, rfl⟩
  · rw [canC_no c ht]
    refine PSpec.intro tt_ok mx_ok Tryz.func33 rfl (by decide) ?_; (conv => whnf)
    refine boxP rfl ?_
    conv => whnf
    refine boxP rfl ?_
    conv => whnf
    refine Spec.news 400 (lmC 1001 1002 1003 1004) (memC c) (cfgL c) (copyL c hw) (auto_) rfl outC ?_
    conv => whnf
    refine cmpF ht ?_
    conv => whnf
    exact ⟨rfl, rfl⟩

/-! ### Canonical, Counts -/
def cfgZ : List AV := [.nilsl, .nilsl, .int .i64 0, .nilsl, .nilsl, .int .i64 0]
noncomputable def cnE (p : Pro) (c : Cfg) : Int := if validE p ≠ 0 then validE p else if plB p c then 0 else 1
noncomputable def caE (p : Pro) (c : Cfg) : AV := .tup [.agg (encC (if cnE p c = 0 then canC p c else cfg0)), .int .i64 (cnE p c)]
noncomputable def coE (p : Pro) (c : Cfg) : AV := .tup [.sl 0 encI (if cnE p c = 0 then cntL p.states.length (c.states.take c.correct.toNat) else []), .int .i64 (cnE p c)]
theorem cnE_ok {p : Pro} {c : Cfg} : cnE p c = 0 ↔ validE p = 0 ∧ plB p c := by
  unfold cnE
  by_cases h : validE p ≠ 0
  · rw [if_pos h]; exact ⟨fun e => absurd e h, fun e => absurd e.1 h⟩
  · rw [if_neg h]
    by_cases h2 : plB p c
    · rw [if_pos h2]; exact ⟨fun _ => ⟨by omega, h2⟩, fun _ => rfl⟩
    · rw [if_neg h2]; exact ⟨fun e => by omega, fun e => absurd e.2 h2⟩
theorem CanonicalF (p : Pro) (c : Cfg) (hp : ¬ bigP p) (hw : wideB c = false) : PSpec Tryz.prog 12 [.agg (encP p), .agg (encC c)] (fun u => u = caE p c) := by
  by_cases h : validE p = 0 ∧ plB p c
  · have e : caE p c = .tup [.agg (encC (canC p c)), .int .i64 0] := by unfold caE; rw [cnE_ok.2 h, if_pos rfl]
    rw [e]
    refine PSpec.intro tt_ok mx_ok Tryz.func12 rfl (by decide) ?_; (conv => whnf)
    refine boxP rfl ?_
    conv => whnf
    refine boxP rfl ?_
    conv => whnf
    (refine Spec.of_pure (n := 5) (validateF p hp) rfl ?_; rintro _ rfl; conv => whnf)
    refine cmpF (by omega) ?_
    conv => whnf
    have hA := plainN p c hp hw
    rw [if_pos h.2] at hA
    (refine Spec.of_pure (n := 5) (hA) rfl ?_; rintro _ rfl; conv => whnf)
    repeat' (first
        | (refine needI (by first | omega | (dsimp only; omega)) ?_; conv => whnf)
        | (refine arI trivial (by omega) ?_; conv => whnf)
        | (refine cmpT (by omega) ?_; conv => whnf)
        | (refine cmpF (by omega) ?_; conv => whnf)
        | fail)
    (refine Spec.of_pure (n := 5) (canonicalF p c hw h.2) rfl ?_; rintro _ rfl; conv => whnf)
    exact ⟨rfl, rfl⟩
  · have hne : cnE p c ≠ 0 := fun e => h (cnE_ok.1 e)
    have e : caE p c = .tup [.agg (encC cfg0), .int .i64 (cnE p c)] := by unfold caE; rw [if_neg hne]
    rw [e]
    refine PSpec.sub (R := fun u => u = .tup [.agg cfgZ, .int .i64 (cnE p c)]) ?_ (by rintro _ rfl; exact ⟨_, rfl, auto_, rfl⟩)
    have hn := cnE.eq_1 p c
    refine PSpec.intro tt_ok mx_ok Tryz.func12 rfl (by decide) ?_; (conv => whnf)
    refine boxP rfl ?_
    conv => whnf
    refine boxP rfl ?_
    conv => whnf
    (refine Spec.of_pure (n := 5) (validateF p hp) rfl ?_; rintro _ rfl; conv => whnf)
    refine cmpI (fun h1 => ?_) (fun h1 => ?_) <;> conv => whnf
    · rw [if_pos h1] at hn
      exact ⟨by rw [hn]; rfl, rfl⟩
    rw [if_neg h1] at hn
    have h2 : ¬ plB p c := fun h2 => h ⟨by omega, h2⟩
    rw [if_neg h2] at hn
    have hA := plainN p c hp hw
    rw [if_neg h2] at hA
    (refine Spec.of_pure (n := 5) (hA) rfl ?_; rintro _ rfl; conv => whnf)
    repeat' (first
        | (refine needI (by first | omega | (dsimp only; omega)) ?_; conv => whnf)
        | (refine arI trivial (by omega) ?_; conv => whnf)
        | (refine cmpT (by omega) ?_; conv => whnf)
        | (refine cmpF (by omega) ?_; conv => whnf)
        | fail)
    exact ⟨by rw [hn]; rfl, rfl⟩
theorem CanonicalR (p : Pro) (c : Cfg) (hp : ¬ bigP p) (hw : wideB c = false) : PSpec Tryz.prog 13 [.agg (encP p), .agg (encC c)] (fun u => u = caE p c) := by
  by_cases h : validE p = 0 ∧ plB p c
  · have e : caE p c = .tup [.agg (encC (canC p c)), .int .i64 0] := by unfold caE; rw [cnE_ok.2 h, if_pos rfl]
    rw [e]
    refine PSpec.intro tt_ok mx_ok Tryz.func13 rfl (by decide) ?_; (conv => whnf)
    refine boxP rfl ?_
    conv => whnf
    refine boxP rfl ?_
    conv => whnf
    (refine Spec.of_pure (n := 5) (validateR p hp) rfl ?_; rintro _ rfl; conv => whnf)
    refine cmpF (by omega) ?_
    conv => whnf
    refine Spec.dcall (n := 5) (plainR p c hp hw) rfl (fun _ => ?_) (fun _ => ?_) <;> (conv => whnf)
    case refine_2 => rename_i hn; exact absurd h.2 hn
    (refine Spec.of_pure (n := 5) (canonicalR p c hw h.2) rfl ?_; rintro _ rfl; conv => whnf)
    exact ⟨rfl, rfl⟩
  · have hne : cnE p c ≠ 0 := fun e => h (cnE_ok.1 e)
    have e : caE p c = .tup [.agg (encC cfg0), .int .i64 (cnE p c)] := by unfold caE; rw [if_neg hne]
    rw [e]
    refine PSpec.sub (R := fun u => u = .tup [.agg cfgZ, .int .i64 (cnE p c)]) ?_ (by rintro _ rfl; exact ⟨_, rfl, auto_, rfl⟩)
    have hn := cnE.eq_1 p c
    refine PSpec.intro tt_ok mx_ok Tryz.func13 rfl (by decide) ?_; (conv => whnf)
    refine boxP rfl ?_
    conv => whnf
    refine boxP rfl ?_
    conv => whnf
    (refine Spec.of_pure (n := 5) (validateR p hp) rfl ?_; rintro _ rfl; conv => whnf)
    refine cmpI (fun h1 => ?_) (fun h1 => ?_) <;> conv => whnf
    · rw [if_pos h1] at hn
      exact ⟨by rw [hn]; rfl, rfl⟩
    rw [if_neg h1] at hn
    have h2 : ¬ plB p c := fun h2 => h ⟨by omega, h2⟩
    rw [if_neg h2] at hn
    refine Spec.dcall (n := 5) (plainR p c hp hw) rfl (fun _ => ?_) (fun _ => ?_) <;> (conv => whnf)
    · rename_i hh; exact absurd hh h2
    exact ⟨by rw [hn]; rfl, rfl⟩
theorem CountsF (p : Pro) (c : Cfg) (hp : ¬ bigP p) (hw : wideB c = false) : PSpec Tryz.prog 10 [.agg (encP p), .agg (encC c)] (fun u => u = coE p c) := by
  by_cases h : validE p = 0 ∧ plB p c
  · have e : coE p c = .tup [.sl 0 encI (cntL p.states.length (c.states.take c.correct.toNat)), .int .i64 0] := by unfold coE; rw [cnE_ok.2 h, if_pos rfl]
    rw [e]
    refine PSpec.intro tt_ok mx_ok Tryz.func10 rfl (by decide) ?_; (conv => whnf)
    refine boxP rfl ?_
    conv => whnf
    refine boxP rfl ?_
    conv => whnf
    (refine Spec.of_pure (n := 5) (validateF p hp) rfl ?_; rintro _ rfl; conv => whnf)
    refine cmpF (by omega) ?_
    conv => whnf
    have hA := plainN p c hp hw
    rw [if_pos h.2] at hA
    (refine Spec.of_pure (n := 5) (hA) rfl ?_; rintro _ rfl; conv => whnf)
    repeat' (first
        | (refine needI (by first | omega | (dsimp only; omega)) ?_; conv => whnf)
        | (refine arI trivial (by omega) ?_; conv => whnf)
        | (refine cmpT (by omega) ?_; conv => whnf)
        | (refine cmpF (by omega) ?_; conv => whnf)
        | fail)
    (refine Spec.of_pure (n := 5) (countsF p c hp hw h.2) rfl ?_; rintro _ rfl; conv => whnf)
    exact ⟨rfl, rfl⟩
  · have hne : cnE p c ≠ 0 := fun e => h (cnE_ok.1 e)
    have e : coE p c = .tup [.sl 0 encI [], .int .i64 (cnE p c)] := by unfold coE; rw [if_neg hne]
    rw [e]
    refine PSpec.sub (R := fun u => u = .tup [.nilsl, .int .i64 (cnE p c)]) ?_ (by rintro _ rfl; exact ⟨_, rfl, auto_, rfl⟩)
    have hn := cnE.eq_1 p c
    refine PSpec.intro tt_ok mx_ok Tryz.func10 rfl (by decide) ?_; (conv => whnf)
    refine boxP rfl ?_
    conv => whnf
    refine boxP rfl ?_
    conv => whnf
    (refine Spec.of_pure (n := 5) (validateF p hp) rfl ?_; rintro _ rfl; conv => whnf)
    refine cmpI (fun h1 => ?_) (fun h1 => ?_) <;> conv => whnf
    · rw [if_pos h1] at hn
      exact ⟨by rw [hn]; rfl, rfl⟩
    rw [if_neg h1] at hn
    have h2 : ¬ plB p c := fun h2 => h ⟨by omega, h2⟩
    rw [if_neg h2] at hn
    have hA := plainN p c hp hw
    rw [if_neg h2] at hA
    (refine Spec.of_pure (n := 5) (hA) rfl ?_; rintro _ rfl; conv => whnf)
    repeat' (first
        | (refine needI (by first | omega | (dsimp only; omega)) ?_; conv => whnf)
        | (refine arI trivial (by omega) ?_; conv => whnf)
        | (refine cmpT (by omega) ?_; conv => whnf)
        | (refine cmpF (by omega) ?_; conv => whnf)
        | fail)
    exact ⟨by rw [hn]; rfl, rfl⟩
theorem CountsR (p : Pro) (c : Cfg) (hp : ¬ bigP p) (hw : wideB c = false) : PSpec Tryz.prog 11 [.agg (encP p), .agg (encC c)] (fun u => u = coE p c) := by
  by_cases h : validE p = 0 ∧ plB p c
  · have e : coE p c = .tup [.sl 0 encI (cntL p.states.length (c.states.take c.correct.toNat)), .int .i64 0] := by unfold coE; rw [cnE_ok.2 h, if_pos rfl]
    rw [e]
    have hle := bigP_le hp
    have hc := wide_le hw
    obtain ⟨hin, hc0, hc1⟩ := h.2
    refine PSpec.intro tt_ok mx_ok Tryz.func11 rfl (by decide) ?_; (conv => whnf)
    refine boxP rfl ?_
    conv => whnf
    refine boxP rfl ?_
    conv => whnf
    (refine Spec.of_pure (n := 5) (validateR p hp) rfl ?_; rintro _ rfl; conv => whnf)
    refine cmpF (by omega) ?_
    conv => whnf
    refine Spec.dcall (n := 5) (plainR p c hp hw) rfl (fun _ => ?_) (fun _ => ?_) <;> (conv => whnf)
    case refine_2 => rename_i hn; exact absurd h.2 hn
    refine mkI 0 encI 0 rfl (by dsimp only; omega) ?_
    rw [Int.toNat_natCast]
    conv => whnf
    refine WPc.loopF tt_ok mx_ok (fun x : Nat × List Int => x.1 ≤ c.correct.toNat ∧ x.2.length = p.states.length ∧ ∀ s : Nat, s < p.states.length → x.2.getD s 0 = ((c.states.take x.1).count (s : Int) : Int)) (fun x => [(8, .int .i64 (x.1 : Int))]) (fun x => [(21, rowN x.2)]) (fun x => c.correct.toNat - x.1) (0, List.replicate p.states.length 0) ⟨by dsimp only; omega, by simp, fun s hs => by dsimp only; rw [getD_rep _ _ _ hs]; simp⟩ ?_; conv => whnf
    refine ⟨(Sub.id_ 400 rfl auto_ auto_), ?_⟩
    rintro x ⟨h1, h2, h3⟩
    conv => whnf
    refine cmpI (fun h4 => ?_) (fun h4 => ?_) <;> conv => whnf
    · have h5 := hin x.1 (by omega)
      refine needI (by omega) ?_
      rw [Int.toNat_natCast]
      conv => whnf
      have h6 : (c.states.getD x.1 0).toNat < p.states.length := by omega
      have h7 := h3 _ h6
      have h8 : (c.states.take x.1).count ((c.states.getD x.1 0).toNat : Int) ≤ (c.states.take x.1).length := List.count_le_length
      have h9 : (c.states.take x.1).length ≤ 100 := by rw [List.length_take]; omega
      repeat' (first
          | (refine needI (by first | omega | (dsimp only; omega)) ?_; conv => whnf)
          | (refine arI trivial (by omega) ?_; conv => whnf)
          | (refine arU trivial (by omega) ?_; conv => whnf)
          | (refine arB trivial (by omega) ?_; conv => whnf)
          | (refine drawI (by decide +kernel) ?_; conv => whnf)
          | (refine drawR (by decide +kernel) ?_; conv => whnf)
          | (refine drawP (by decide +kernel) ?_; conv => whnf)
          | (refine boxP rfl ?_; conv => whnf)
          | (refine appI _ rfl (by first | omega | (dsimp only; omega) | (simp only [List.length_cons, List.length_nil, List.length_append]; omega)) ?_; conv => whnf)
          | (refine rowSetI _ rfl ?_; conv => whnf)
          | (refine cmpT (by omega) ?_; conv => whnf)
          | (refine cmpF (by omega) ?_; conv => whnf)
          | (refine cmpI (fun _ => ?_) (fun _ => ?_) <;> conv => whnf))
      refine ⟨(x.1 + 1, x.2.set (c.states.getD x.1 0).toNat (x.2.getD (c.states.getD x.1 0).toNat 0 + 1)), (Sub.id_ 400 rfl auto_ auto_), ⟨by dsimp only; omega, by simpa using h2, fun s hs => ?_⟩, by dsimp only; omega⟩
      dsimp only
      rw [getD_set, count_take (by omega), h3 s hs, h7]
      by_cases e : (c.states.getD x.1 0).toNat = s
      · rw [if_pos ⟨e, by omega⟩, if_pos (by omega), e]; omega
      · rw [if_neg (fun h => e h.1), if_neg (by omega)]; omega
    · have h5 : x.1 = c.correct.toNat := by omega
      have h6 : x.2 = cntL p.states.length (c.states.take c.correct.toNat) := by
        rw [h5] at h3
        exact list_of h2 h3
      refine ⟨?_, rfl⟩
      rw [← h6]
      rfl
  · have hne : cnE p c ≠ 0 := fun e => h (cnE_ok.1 e)
    have e : coE p c = .tup [.sl 0 encI [], .int .i64 (cnE p c)] := by unfold coE; rw [if_neg hne]
    rw [e]
    refine PSpec.sub (R := fun u => u = .tup [.nilsl, .int .i64 (cnE p c)]) ?_ (by rintro _ rfl; exact ⟨_, rfl, auto_, rfl⟩)
    have hn := cnE.eq_1 p c
    refine PSpec.intro tt_ok mx_ok Tryz.func11 rfl (by decide) ?_; (conv => whnf)
    refine boxP rfl ?_
    conv => whnf
    refine boxP rfl ?_
    conv => whnf
    (refine Spec.of_pure (n := 5) (validateR p hp) rfl ?_; rintro _ rfl; conv => whnf)
    refine cmpI (fun h1 => ?_) (fun h1 => ?_) <;> conv => whnf
    · rw [if_pos h1] at hn
      exact ⟨by rw [hn]; rfl, rfl⟩
    rw [if_neg h1] at hn
    have h2 : ¬ plB p c := fun h2 => h ⟨by omega, h2⟩
    rw [if_neg h2] at hn
    refine Spec.dcall (n := 5) (plainR p c hp hw) rfl (fun _ => ?_) (fun _ => ?_) <;> (conv => whnf)
    · rename_i hh; exact absurd hh h2
    exact ⟨by rw [hn]; rfl, rfl⟩
end Go.Proofs.YtcbckmnbdcjeeaaGreatDoor
