
/-
  Initial, by the program; the law UnfoldStartsAll.
-/
import Derived.Test.YtgbicnldbhfhiaaGreatDoorFpE
set_option linter.unusedVariables false
set_option linter.unusedSimpArgs false
namespace Go.Proofs.YtgbicnldbhfhiaaGreatDoor
set_option maxRecDepth 100000
set_option maxHeartbeats 16000000

noncomputable def iniE (p : Pro) (q : Prp) (s : Siz) : AV := if sizQ p q s ≠ 0 then rpA [] (sizQ p q s) else iniA p q s
theorem iniA_form (p : Pro) (q : Prp) (s : Siz) : ∃ l e, iniA p q s = rpA l e := by
  unfold iniA
  split
  · exact ⟨_, _, rfl⟩
  · exact ⟨_, _, rfl⟩
theorem iniE_form (p : Pro) (q : Prp) (s : Siz) : ∃ l e, iniE p q s = rpA l e := by
  unfold iniE
  split
  · exact ⟨_, _, rfl⟩
  · exact iniA_form p q s
theorem InitialF (p : Pro) (q : Prp) (s : Siz) (hp : ¬ bigP p) (hq : ¬ bigQ q) : PSpec Tryz.prog 21 [.agg (encP p), .agg (encQ q), .agg (encZ s)] (fun u => u = iniE p q s) := by
  have he := iniE.eq_1 p q s
  refine PSpec.rp (iniE_form p q s) ?_
  refine PSpec.intro tt_ok mx_ok Tryz.func21 rfl (by decide) ?_; (conv => whnf)
  refine boxP rfl ?_
  conv => whnf
  refine boxP rfl ?_
  conv => whnf
  refine boxP rfl ?_
  conv => whnf
  (refine Spec.of_pure (n := 5) (checkAllF p q s hp hq) rfl ?_; rintro _ rfl; conv => whnf)
  refine cmpI (fun h1 => ?_) (fun h1 => ?_) <;> conv => whnf
  · rw [if_pos h1] at he; exact ⟨.inr ⟨_, rfl, he⟩, rfl⟩
  rw [if_neg h1] at he
  have hz := sizQ_ok (p := p) (q := q) (s := s) (by omega)
  have hI := PSpec.rp (iniA_form p q s) (initialF p q s hp hq hz.1 hz.2)
  obtain ⟨l, e, hl⟩ := iniA_form p q s
  rw [hl] at hI he
  (refine Spec.of_pure (n := 5) (hI) rfl ?_; rintro _ rfl; conv => whnf)
  exact ⟨.inl he.symm, rfl⟩
theorem IsInitialR (p : Pro) (q : Prp) (s : Siz) (c : Cfg) (hp : ¬ bigP p) (hq : ¬ bigQ q) (hw : wideB c = false) (h0 : sizQ p q s = 0) : PSpec Tryz.prog 25 [.agg (encP p), .agg (encQ q), .agg (encZ s), .agg (encC c)] (fun u => u = .bool (decide (isI p q s c))) := by
  have hz := sizQ_ok h0
  refine PSpec.intro tt_ok mx_ok Tryz.func25 rfl (by decide) ?_; (conv => whnf)
  refine boxP rfl ?_
  conv => whnf
  refine boxP rfl ?_
  conv => whnf
  refine boxP rfl ?_
  conv => whnf
  refine boxP rfl ?_
  conv => whnf
  (refine Spec.of_pure (n := 5) (sizedPropertyR p q s hp hq) rfl ?_; rintro _ rfl; conv => whnf)
  refine cmpT (by omega) ?_
  conv => whnf
  refine Spec.dcall (n := 5) (isInitialR p q s c hp hq hw hz.2) rfl (fun _ => ?_) (fun _ => ?_) <;> (conv => whnf)
  · rename_i h; exact ⟨dec_t h, rfl⟩
  · rename_i h; exact ⟨dec_f h, rfl⟩
theorem memC_getD {l : List Cfg} {c : Cfg} : c ∈ l ↔ ∃ i, i < l.length ∧ l.getD i cfg0 = c := by
  constructor
  · intro h
    obtain ⟨i, hi, rfl⟩ := List.mem_iff_getElem.1 h
    exact ⟨i, hi, by rw [List.getD_eq_getElem?_getD, List.getElem?_eq_getElem hi]; rfl⟩
  · rintro ⟨i, hi, rfl⟩
    rw [List.getD_eq_getElem?_getD, List.getElem?_eq_getElem hi]
    exact List.getElem_mem _
theorem lawStartsAll (p : Pro) (q : Prp) (s : Siz) (c : Cfg) : PSpec Tryz.prog 6 [.agg (encCs p q s), .agg (encC c)] (fun u => u = .bool true) := by
  refine PSpec.intro tt_ok mx_ok Tryz.func6 rfl (by decide) ?_; (conv => whnf)
  refine boxP rfl ?_
  conv => whnf
  refine boxP rfl ?_
  conv => whnf
  refine Spec.dcall (n := 5) (bigCaseF p q s) rfl (fun _ => ?_) (fun _ => ?_) <;> (conv => whnf)
  · (refine Spec.of_pure (n := 5) (knownF) rfl ?_; rintro _ rfl; conv => whnf)
    exact ⟨rfl, rfl⟩
  rename_i hb
  have hp : ¬ bigP p := fun h => hb (.inl h)
  have hq : ¬ bigQ q := fun h => hb (.inr h)
  have hW := wideF c
  cases hw : wideB c with
  | true =>
    rw [hw] at hW
    (refine Spec.of_pure (n := 5) (hW) rfl ?_; rintro _ rfl; conv => whnf)
    (refine Spec.of_pure (n := 5) (knownF) rfl ?_; rintro _ rfl; conv => whnf)
    exact ⟨rfl, rfl⟩
  | false =>
    rw [hw] at hW
    (refine Spec.of_pure (n := 5) (hW) rfl ?_; rintro _ rfl; conv => whnf)
    have hI := InitialF p q s hp hq
    by_cases hok : sizQ p q s = 0 ∧ iniB (iniF p s).length (chF p q s) (modN p s).toNat
    case neg =>
      have he : ∃ e, e ≠ 0 ∧ iniE p q s = rpA [] e := by
        unfold iniE
        by_cases h1 : sizQ p q s ≠ 0
        · rw [if_pos h1]; exact ⟨_, h1, rfl⟩
        · rw [if_neg h1]
          unfold iniA
          rw [if_neg (fun h => hok ⟨by omega, h⟩)]
          exact ⟨4, by decide, rfl⟩
      obtain ⟨e, he0, he⟩ := he
      rw [he] at hI
      (refine Spec.of_pure (n := 5) (hI) rfl ?_; rintro _ rfl; conv => whnf)
      refine cmpT he0 ?_
      conv => whnf
      refine cmpT rfl ?_
      conv => whnf
      (refine Spec.of_pure (n := 5) (knownF) rfl ?_; rintro _ rfl; conv => whnf)
      exact ⟨rfl, rfl⟩
    obtain ⟨h0, hB⟩ := hok
    have hz := sizQ_ok h0
    have he : iniE p q s = rpA (iniL p s (iniF p s) (prodK (chF p q s) (modN p s).toNat)) 0 := by
      unfold iniE iniA
      rw [if_neg (by omega), if_pos hB]
    rw [he] at hI
    have hF1 : 1 ≤ (iniF p s).length ∧ (iniF p s).length ≤ 5 := by
      unfold iniF
      by_cases hT : p.topology = 4
      · rw [if_pos hT]
        obtain ⟨m, hm, hsn⟩ := tree_odd hz.2 hT
        have a1 := shpT_len1 m hm
        have a2 := (shpT_le (n := 2 * m + 1) (by omega)).1
        rw [hsn, Int.toNat_natCast]
        exact ⟨a1, a2⟩
      · rw [if_neg hT]; exact ⟨Nat.le_refl _, by decide⟩
    have hlen : (iniL p s (iniF p s) (prodK (chF p q s) (modN p s).toNat)).length ≤ 4000 := by
      rw [iniL_len]
      exact (prod_le hF1.1 hF1.2 hB _ (Nat.le_refl _)).2
    have hmem := fun d => ini_mem (c := d) hz.1 hz.2
    have hasc := ini_asc hz.1 hz.2
    generalize iniL p s (iniF p s) (prodK (chF p q s) (modN p s).toNat) = l at hI hlen hmem hasc
    have hasc' : ∀ i, 0 < i → i < l.length → cmpC (l.getD (i - 1) cfg0) (l.getD i cfg0) < 0 := fun i h1 h2 => by
      have := (List.pairwise_iff_getElem.1 hasc) (i - 1) i (by omega) h2 (by omega)
      rw [List.getD_eq_getElem?_getD, List.getElem?_eq_getElem (by omega), List.getD_eq_getElem?_getD, List.getElem?_eq_getElem h2]
      exact this
    have hval : ∀ i, i < l.length → VC p s (l.getD i cfg0) := fun i hi => ((hmem _).1 (memC_getD.2 ⟨i, hi, rfl⟩)).1
    have hwid : ∀ i, i < l.length → wideB (l.getD i cfg0) = false := fun i hi => by
      have hv := hval i hi
      have hsz := sizeE_ok hz.2
      have hle := bigP_le hp
      have hl := hv.len
      have h1 : modN p s ≤ 8 := by unfold modN; split <;> omega
      have h2 := hv.snl
      have h3 := hv.fal
      have h4 : (l.getD i cfg0).shape.length ≤ 8 := by
        by_cases hT : p.topology = 4
        · have := (hv.tre hT).1; omega
        · have := hv.non hT; omega
      unfold wideB
      simp only [Bool.or_eq_false_iff, decide_eq_false_iff_not]
      omega
    (refine Spec.of_pure (n := 5) (hI) rfl ?_; rintro _ rfl; conv => whnf)
    refine cmpF (by omega) ?_
    conv => whnf
    refine WPc.loopF tt_ok mx_ok (fun z : Nat × Bool => z.1 ≤ l.length ∧ (z.2 = true ↔ ∃ i, i < z.1 ∧ l.getD i cfg0 = c)) (fun z => [(8, .int .i64 (z.1 : Int)), (7, .bool z.2)]) (fun _ => []) (fun z => l.length - z.1) (0, false) ⟨Nat.zero_le _, by simp⟩ ?_; conv => whnf
    refine ⟨(Sub.id_ 400 rfl auto_ auto_), ?_⟩
    rintro ⟨k, is⟩ ⟨hk, his⟩
    dsimp only at hk his ⊢
    conv => whnf
    refine cmpI (fun g1 => ?_) (fun g1 => ?_) <;> conv => whnf
    · have hlt : k < l.length := by omega
      have hwk := hwid k hlt
      have hvk := hval k hlt
      have hak := hasc' k
      have hwk1 : 0 < k → wideB (l.getD (k - 1) cfg0) = false := fun h => hwid (k - 1) (by omega)
      have hV : vconE p s (l.getD k cfg0) = 0 := (rdy_of hp hwk hz.2 hvk).vcon
      have next : ∀ b : Bool, (b = true ↔ is = true ∨ l.getD k cfg0 = c) → (b = true ↔ ∃ i, i < k + 1 ∧ l.getD i cfg0 = c) := fun b hb => by
        rw [hb, his]
        constructor
        · rintro (⟨i, h1, h2⟩ | h)
          · exact ⟨i, by omega, h2⟩
          · exact ⟨k, by omega, h⟩
        · rintro ⟨i, h1, h2⟩
          by_cases e : i = k
          · subst e; exact .inr h2
          · exact .inl ⟨i, by omega, h2⟩
      have hk1 : ∀ h : 0 < k, ((k : Int) - 1).toNat = k - 1 := fun h => by omega
      refine drawI (by decide +kernel) ?_
      conv => whnf
      cases is with
      | true =>
        conv => whnf
        have hnb : (true = true ↔ ∃ i, i < k + 1 ∧ l.getD i cfg0 = c) := next true (by simp)
        refine drawI (by decide +kernel) ?_
        conv => whnf
        by_cases hk0 : 0 < k
        · have hck := hak hk0 hlt
          refine cmpT (by omega) ?_
          conv => whnf
          refine arI trivial (by omega) ?_
          conv => whnf
          refine needI (by omega) ?_
          conv => whnf
          rw [hk1 hk0]
          refine needI (by omega) ?_
          conv => whnf
          (refine callPI 5 (compareC (l.getD (k - 1) cfg0) (l.getD k cfg0) (hwk1 hk0)) rfl ⟨_, rfl⟩ ?_; rintro _ rfl; conv => whnf)
          refine cmpF (by omega) ?_
          conv => whnf
          refine needI (by omega) ?_
          conv => whnf
          (refine callPI 5 (ValidConfigF p s (l.getD k cfg0) hp hwk) rfl ⟨_, rfl⟩ ?_; rintro _ rfl; conv => whnf)
          refine cmpF (by omega) ?_
          conv => whnf
          repeat' (first
              | (refine needI (by first | omega | (dsimp only; omega)) ?_; conv => whnf)
              | (refine arI trivial (by omega) ?_; conv => whnf)
              | (refine cmpT (by omega) ?_; conv => whnf)
              | (refine cmpF (by omega) ?_; conv => whnf)
              | fail)
          exact ⟨(k + 1, true), (Sub.id_ 400 rfl auto_ auto_), ⟨by dsimp only; omega, hnb⟩, by dsimp only; omega⟩
        · refine cmpF (by omega) ?_
          conv => whnf
          refine needI (by omega) ?_
          conv => whnf
          (refine callPI 5 (ValidConfigF p s (l.getD k cfg0) hp hwk) rfl ⟨_, rfl⟩ ?_; rintro _ rfl; conv => whnf)
          refine cmpF (by omega) ?_
          conv => whnf
          repeat' (first
              | (refine needI (by first | omega | (dsimp only; omega)) ?_; conv => whnf)
              | (refine arI trivial (by omega) ?_; conv => whnf)
              | (refine cmpT (by omega) ?_; conv => whnf)
              | (refine cmpF (by omega) ?_; conv => whnf)
              | fail)
          exact ⟨(k + 1, true), (Sub.id_ 400 rfl auto_ auto_), ⟨by dsimp only; omega, hnb⟩, by dsimp only; omega⟩
      | false =>
        conv => whnf
        refine needI (by omega) ?_
        conv => whnf
        rw [Int.toNat_natCast]
        (refine callPI 5 (compareC (l.getD k cfg0) c hwk) rfl ⟨_, rfl⟩ ?_; rintro _ rfl; conv => whnf)
        refine cmpI (fun g2 => ?_) (fun g2 => ?_) <;> conv => whnf
        · have g3 := cmpC_eq g2
          have hnb : (true = true ↔ ∃ i, i < k + 1 ∧ l.getD i cfg0 = c) := next true ⟨fun _ => .inr g3, fun _ => rfl⟩
          refine drawI (by decide +kernel) ?_
          conv => whnf
          by_cases hk0 : 0 < k
          · have hck := hak hk0 hlt
            refine cmpT (by omega) ?_
            conv => whnf
            refine arI trivial (by omega) ?_
            conv => whnf
            refine needI (by omega) ?_
            conv => whnf
            rw [hk1 hk0]
            refine needI (by omega) ?_
            conv => whnf
            (refine callPI 5 (compareC (l.getD (k - 1) cfg0) (l.getD k cfg0) (hwk1 hk0)) rfl ⟨_, rfl⟩ ?_; rintro _ rfl; conv => whnf)
            refine cmpF (by omega) ?_
            conv => whnf
            refine needI (by omega) ?_
            conv => whnf
            (refine callPI 5 (ValidConfigF p s (l.getD k cfg0) hp hwk) rfl ⟨_, rfl⟩ ?_; rintro _ rfl; conv => whnf)
            refine cmpF (by omega) ?_
            conv => whnf
            repeat' (first
                | (refine needI (by first | omega | (dsimp only; omega)) ?_; conv => whnf)
                | (refine arI trivial (by omega) ?_; conv => whnf)
                | (refine cmpT (by omega) ?_; conv => whnf)
                | (refine cmpF (by omega) ?_; conv => whnf)
                | fail)
            exact ⟨(k + 1, true), (Sub.id_ 400 rfl auto_ auto_), ⟨by dsimp only; omega, hnb⟩, by dsimp only; omega⟩
          · refine cmpF (by omega) ?_
            conv => whnf
            refine needI (by omega) ?_
            conv => whnf
            (refine callPI 5 (ValidConfigF p s (l.getD k cfg0) hp hwk) rfl ⟨_, rfl⟩ ?_; rintro _ rfl; conv => whnf)
            refine cmpF (by omega) ?_
            conv => whnf
            repeat' (first
                | (refine needI (by first | omega | (dsimp only; omega)) ?_; conv => whnf)
                | (refine arI trivial (by omega) ?_; conv => whnf)
                | (refine cmpT (by omega) ?_; conv => whnf)
                | (refine cmpF (by omega) ?_; conv => whnf)
                | fail)
            exact ⟨(k + 1, true), (Sub.id_ 400 rfl auto_ auto_), ⟨by dsimp only; omega, hnb⟩, by dsimp only; omega⟩
        · have g3 : l.getD k cfg0 ≠ c := fun e => g2 (by rw [e]; exact cmpC_self c)
          have hnb : (false = true ↔ ∃ i, i < k + 1 ∧ l.getD i cfg0 = c) := next false ⟨fun h => (by cases h), fun h => h.elim (fun e => by cases e) (fun e => absurd e g3)⟩
          refine drawI (by decide +kernel) ?_
          conv => whnf
          by_cases hk0 : 0 < k
          · have hck := hak hk0 hlt
            refine cmpT (by omega) ?_
            conv => whnf
            refine arI trivial (by omega) ?_
            conv => whnf
            refine needI (by omega) ?_
            conv => whnf
            rw [hk1 hk0]
            refine needI (by omega) ?_
            conv => whnf
            (refine callPI 5 (compareC (l.getD (k - 1) cfg0) (l.getD k cfg0) (hwk1 hk0)) rfl ⟨_, rfl⟩ ?_; rintro _ rfl; conv => whnf)
            refine cmpF (by omega) ?_
            conv => whnf
            refine needI (by omega) ?_
            conv => whnf
            (refine callPI 5 (ValidConfigF p s (l.getD k cfg0) hp hwk) rfl ⟨_, rfl⟩ ?_; rintro _ rfl; conv => whnf)
            refine cmpF (by omega) ?_
            conv => whnf
            repeat' (first
                | (refine needI (by first | omega | (dsimp only; omega)) ?_; conv => whnf)
                | (refine arI trivial (by omega) ?_; conv => whnf)
                | (refine cmpT (by omega) ?_; conv => whnf)
                | (refine cmpF (by omega) ?_; conv => whnf)
                | fail)
            exact ⟨(k + 1, false), (Sub.id_ 400 rfl auto_ auto_), ⟨by dsimp only; omega, hnb⟩, by dsimp only; omega⟩
          · refine cmpF (by omega) ?_
            conv => whnf
            refine needI (by omega) ?_
            conv => whnf
            (refine callPI 5 (ValidConfigF p s (l.getD k cfg0) hp hwk) rfl ⟨_, rfl⟩ ?_; rintro _ rfl; conv => whnf)
            refine cmpF (by omega) ?_
            conv => whnf
            repeat' (first
                | (refine needI (by first | omega | (dsimp only; omega)) ?_; conv => whnf)
                | (refine arI trivial (by omega) ?_; conv => whnf)
                | (refine cmpT (by omega) ?_; conv => whnf)
                | (refine cmpF (by omega) ?_; conv => whnf)
                | fail)
            exact ⟨(k + 1, false), (Sub.id_ 400 rfl auto_ auto_), ⟨by dsimp only; omega, hnb⟩, by dsimp only; omega⟩
    · have hfin : (is = true ↔ isI p q s c) := by
        rw [his, ← hmem, memC_getD]
        constructor
        · rintro ⟨i, h1, h2⟩; exact ⟨i, by omega, h2⟩
        · rintro ⟨i, h1, h2⟩; exact ⟨i, by omega, h2⟩
      cases is with
      | true =>
        refine Spec.dcall (n := 5) (IsInitialR p q s c hp hq hw h0) rfl (fun _ => ?_) (fun _ => ?_) <;> (conv => whnf)
        · (refine Spec.of_pure (n := 5) (knownF) rfl ?_; rintro _ rfl; conv => whnf)
          exact ⟨rfl, rfl⟩
        · rename_i hn; exact absurd (hfin.1 rfl) hn
      | false =>
        refine Spec.dcall (n := 5) (IsInitialR p q s c hp hq hw h0) rfl (fun _ => ?_) (fun _ => ?_) <;> (conv => whnf)
        · rename_i hy; exact absurd (hfin.2 hy) (by simp)
        · (refine Spec.of_pure (n := 5) (knownF) rfl ?_; rintro _ rfl; conv => whnf)
          exact ⟨rfl, rfl⟩
end Go.Proofs.YtgbicnldbhfhiaaGreatDoor
