
/-
  Initial, by the document's answer; the law UnfoldStarts.
-/
import Derived.Test.YtgbicnldbhfhiaaGreatDoorFoYb
import Derived.Test.YtgbicnldbhfhiaaGreatDoorFpFa
set_option linter.unusedVariables false
set_option linter.unusedSimpArgs false
namespace Go.Proofs.YtgbicnldbhfhiaaGreatDoor
set_option maxRecDepth 100000
set_option maxHeartbeats 16000000

theorem initialR (p : Pro) (q : Prp) (s : Siz) (hp : ¬ bigP p) (hq : ¬ bigQ q) (hv : propE p q = 0) (hz : sizeE p s = 0) : PSpec Tryz.prog 54 [.agg (encP p), .agg (encQ q), .agg (encZ s)] (inU (iniD p q s)) := by
  by_cases hT : p.topology = 4
  · exact initialRt p q s hp hq hv hz hT
  · exact initialRn p q s hp hq hv hz hT
theorem InitialR (p : Pro) (q : Prp) (s : Siz) (hp : ¬ bigP p) (hq : ¬ bigQ q) : PSpec Tryz.prog 22 [.agg (encP p), .agg (encQ q), .agg (encZ s)] (fun u => u = iniE p q s) := by
  have he := iniE.eq_1 p q s
  refine PSpec.rp (iniE_form p q s) ?_
  refine PSpec.intro tt_ok mx_ok Tryz.func22 rfl (by decide) ?_; (conv => whnf)
  refine boxP rfl ?_
  conv => whnf
  refine boxP rfl ?_
  conv => whnf
  refine boxP rfl ?_
  conv => whnf
  (refine Spec.of_pure (n := 5) (sizedPropertyR p q s hp hq) rfl ?_; rintro _ rfl; conv => whnf)
  refine cmpI (fun h1 => ?_) (fun h1 => ?_) <;> conv => whnf
  · rw [if_pos h1] at he; exact ⟨.inr ⟨_, rfl, he⟩, rfl⟩
  rw [if_neg h1] at he
  have hz := sizQ_ok (p := p) (q := q) (s := s) (by omega)
  have hI := initialR p q s hp hq hz.1 hz.2
  unfold iniA at he
  unfold iniD at hI
  by_cases hB : iniB (iniF p s).length (chF p q s) (modN p s).toNat
  · rw [if_pos hB] at he hI
    refine Spec.of_pure (n := 5) hI rfl ?_
    rintro _ (rfl | ⟨_, h2⟩)
    · conv => whnf
      exact ⟨.inl he.symm, rfl⟩
    · have := congrArg Prod.snd h2; cases this
  · rw [if_neg hB] at he hI
    refine Spec.of_pure (n := 5) hI rfl ?_
    rintro _ (rfl | ⟨rfl, _⟩)
    · conv => whnf
      exact ⟨.inr ⟨_, rfl, he⟩, rfl⟩
    · conv => whnf
      exact ⟨.inr ⟨_, rfl, he⟩, rfl⟩
theorem sameConfigsB (l : List Cfg) (hl : l.length ≤ 100000) (hw : ∀ d ∈ l, wideB d = false) : PSpec Tryz.prog 19 [.sl cfg0 encC l, .sl cfg0 encC l] (fun u => u = .bool true) := by
  refine PSpec.intro tt_ok mx_ok Tryz.func19 rfl (by decide) ?_; (conv => whnf)
  refine cmpF (by omega) ?_
  conv => whnf
  refine WPc.loopF tt_ok mx_ok (fun k : Nat => k ≤ l.length) (fun k => [(5, .int .i64 (k : Int))]) (fun _ => []) (fun k => l.length - k) 0 (Nat.zero_le _) ?_; conv => whnf
  refine ⟨(Sub.id_ 400 rfl auto_ auto_), ?_⟩
  rintro k hk
  conv => whnf
  refine cmpI (fun g1 => ?_) (fun g1 => ?_) <;> conv => whnf
  · refine drawI (by decide +kernel) ?_
    conv => whnf
    refine needI (by omega) ?_
    rw [Int.toNat_natCast]
    conv => whnf
    refine needI (by omega) ?_
    rw [Int.toNat_natCast]
    conv => whnf
    have hd : wideB (l.getD k cfg0) = false := hw _ (by
      rw [List.getD_eq_getElem?_getD, List.getElem?_eq_getElem (by omega)]
      exact List.getElem_mem _)
    generalize l.getD k cfg0 = d at hd
    have hs := cmpC_self d
    (refine callPI 5 (compareR d d hd) rfl ⟨_, rfl⟩ ?_; rintro _ rfl; conv => whnf)
    refine cmpF (by omega) ?_
    conv => whnf
    repeat' (first
        | (refine needI (by first | omega | (dsimp only; omega)) ?_; conv => whnf)
        | (refine arI trivial (by omega) ?_; conv => whnf)
        | (refine cmpT (by omega) ?_; conv => whnf)
        | (refine cmpF (by omega) ?_; conv => whnf)
        | fail)
    exact ⟨k + 1, (Sub.id_ 400 rfl auto_ auto_), by omega, by dsimp only; omega⟩
  · exact ⟨rfl, rfl⟩
theorem iniE_ok (p : Pro) (q : Prp) (s : Siz) (hp : ¬ bigP p) : ∃ l e, iniE p q s = rpA l e ∧ l.length ≤ 4000 ∧ ∀ d ∈ l, wideB d = false := by
  unfold iniE
  by_cases h0 : sizQ p q s ≠ 0
  · rw [if_pos h0]; exact ⟨[], _, rfl, by simp, by simp⟩
  rw [if_neg h0]
  have hz := sizQ_ok (p := p) (q := q) (s := s) (by omega)
  unfold iniA
  by_cases hB : iniB (iniF p s).length (chF p q s) (modN p s).toNat
  · rw [if_pos hB]
    refine ⟨_, _, rfl, ?_, fun d hd => ?_⟩
    · have hF1 : 1 ≤ (iniF p s).length ∧ (iniF p s).length ≤ 5 := by
        unfold iniF
        by_cases hT : p.topology = 4
        · rw [if_pos hT]
          obtain ⟨m, hm, hsn⟩ := tree_odd hz.2 hT
          have a1 := shpT_len1 m hm
          have a2 := (shpT_le (n := 2 * m + 1) (by omega)).1
          rw [hsn, Int.toNat_natCast]
          exact ⟨a1, a2⟩
        · rw [if_neg hT]; exact ⟨Nat.le_refl _, by decide⟩
      rw [iniL_len]
      exact (prod_le hF1.1 hF1.2 hB _ (Nat.le_refl _)).2
    · have hv := ((ini_mem hz.1 hz.2).1 hd).1
      have hsz := sizeE_ok hz.2
      have hle := bigP_le hp
      have hl := hv.len
      have h1 : modN p s ≤ 8 := by unfold modN; split <;> omega
      have h2 := hv.snl
      have h3 := hv.fal
      have h4 : d.shape.length ≤ 8 := by
        by_cases hT : p.topology = 4
        · have := (hv.tre hT).1; omega
        · have := hv.non hT; omega
      unfold wideB
      simp only [Bool.or_eq_false_iff, decide_eq_false_iff_not]
      omega
  · rw [if_neg hB]; exact ⟨[], _, rfl, by simp, by simp⟩
theorem lawStarts (p : Pro) (q : Prp) (s : Siz) : PSpec Tryz.prog 5 [.agg (encCs p q s)] (fun u => u = .bool true) := by
  refine PSpec.intro tt_ok mx_ok Tryz.func5 rfl (by decide) ?_; (conv => whnf)
  refine boxP rfl ?_
  conv => whnf
  refine Spec.dcall (n := 5) (bigCaseF p q s) rfl (fun _ => ?_) (fun _ => ?_) <;> (conv => whnf)
  · (refine Spec.of_pure (n := 5) (knownF) rfl ?_; rintro _ rfl; conv => whnf)
    exact ⟨rfl, rfl⟩
  rename_i hb
  have hp : ¬ bigP p := fun h => hb (.inl h)
  have hq : ¬ bigQ q := fun h => hb (.inr h)
  have b1 := InitialF p q s hp hq
  have b2 := InitialR p q s hp hq
  obtain ⟨m, e, hm, hm2, hm3⟩ := iniE_ok p q s hp
  rw [hm] at b1 b2
  (refine Spec.of_pure (n := 5) (b1) rfl ?_; rintro _ rfl; conv => whnf)
  (refine Spec.of_pure (n := 5) (b2) rfl ?_; rintro _ rfl; conv => whnf)
  refine cmpT rfl ?_
  conv => whnf
  (refine Spec.of_pure (n := 5) (sameConfigsB m (by omega) hm3) rfl ?_; rintro _ rfl; conv => whnf)
  (refine Spec.of_pure (n := 5) (knownF) rfl ?_; rintro _ rfl; conv => whnf)
  exact ⟨rfl, rfl⟩
end Go.Proofs.YtgbicnldbhfhiaaGreatDoor
