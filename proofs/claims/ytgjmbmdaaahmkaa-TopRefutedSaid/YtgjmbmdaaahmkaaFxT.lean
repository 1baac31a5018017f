
/-
  Contract: a branch, by the program: a node behind the root.
-/
import Derived.Test.YtgjmbmdaaahmkaaFxS
set_option linter.unusedVariables false
set_option linter.unusedSimpArgs false
namespace Go.Proofs.Ytgjmbmdaaahmkaa
set_option maxRecDepth 100000
set_option maxHeartbeats 32000000

theorem branchF (n k i : Nat) (b : Br) (h : BrIn n i b) (h0 : 0 < i) (hk : b.left < k + 1) (hW : brW b) (ih : BrH n k) :
    Spec Try.prog 15 [.ptr 6001 0, .int .i64 (i : Int)] (Mem.ofL (brL n b.rows b.nodes b.lines b.left b.gave)) (brR n (brB n (k + 1) b i)) := by
  rw [brB_one (by omega)]
  have hg := h.gv
  have hpt := h.pt
  have hrdy := h.rdy
  have hlmx := h.lmx
  have hn96 := h.n96
  have hW1 := hW.1
  have hW2 := hW.2
  have hbl := h.len
  have ha := AdOk.refl n i b
  rw [show brL n b.rows b.nodes b.lines b.left b.gave = brL n b.rows b.nodes b.lines b.left false by rw [hg]]
  refine Spec.toP rfl ?_
  refine Spec.renorm 400 (R := fun u M => u = .tup [] ∧ ∃ pc, PtA (tlB n k b i).point pc ∧
    (memR (lmO 1000 1001) 400 M (brN n (tlB n k b i).rows (tlB n k b i).nodes (tlB n k b i).lines (tlB n k b i).left pc (tlB n k b i).gave) ∨
     memR (lmO 1002 1003) 400 M (brN n (tlB n k b i).rows (tlB n k b i).nodes (tlB n k b i).lines (tlB n k b i).left pc (tlB n k b i).gave) ∨
     memR (lmP 1005) 400 M (brP n (tlB n k b i).rows (tlB n k b i).nodes (tlB n k b i).lines (tlB n k b i).left pc (tlB n k b i).gave))) ?_ ?_
  case refine_2 =>
    rintro u M' ⟨rfl, pc, hpc, hM | hM | hM⟩
    · exact ⟨_, _, .tup [], rfl, hM, trivial, rfl, pc, hpc, .inl rfl⟩
    · exact ⟨_, _, .tup [], rfl, hM, trivial, rfl, pc, hpc, .inl rfl⟩
    · exact ⟨_, _, .tup [], rfl, hM, trivial, rfl, pc, hpc, .inr rfl⟩
  refine Spec.intro tt_ok mx_ok (brL n b.rows b.nodes b.lines b.left false) Try.func15 rfl (by decide) ?_
  conv => whnf
  refine cmpF (by omega) ?_
  conv => whnf
  refine cmpF (by omega) ?_
  conv => whnf
  refine WPc.loopF tt_ok mx_ok (fun j : Nat => j ≤ b.rows.length ∧ ∀ y, y < j → ¬ conB (b.rows.getD y row0)) (fun j => [(28, .int .i64 (j : Int)), (26, .row 1000 b.rows.length 2)]) (fun _ => tlL n b) (fun j => b.rows.length - j) 0 ⟨Nat.zero_le _, fun j hj => absurd hj (Nat.not_lt_zero _)⟩ ?_; conv => whnf
  refine ⟨Sub.by_ [(6001, .old 6001), (6002, .old 6002), (6003, .old 6003), (1000, .old 6002), (1001, .old 6003)] _ 400 rfl (auto_) (auto_), ?_⟩
  have hrl : b.rows.length ≤ 5000 := by omega
  have hwd : ∀ j, j < b.rows.length → (b.rows.getD j row0).coef.length = n := fun j hj => (hrdy j hj).1
  have bT : ∀ (P : Prop), someC b.rows → tlB n k b i = b := fun _ h => by unfold tlB; rw [if_pos h]
  rintro j ⟨hj, hcon⟩
  conv => whnf
  refine cmpI (fun h1 => ?_) (fun h1 => ?_) <;> conv => whnf
  · refine needI (by omega) ?_
    rw [Int.toNat_natCast]
    conv => whnf
    refine dC (ContradictoryF (b.rows.getD j row0) (by have := hwd j (by omega); omega)) (fun _ => ?_) (fun _ => ?_) <;> (conv => whnf)
    · rename_i h4
      have hs : someC b.rows := ⟨j, by omega, h4⟩
      rw [bT True hs]
      refine ⟨rfl, .nilsl, by rw [hpt]; rfl, .inl ?_⟩
      rw [hg]
      exact (auto_)
    · rename_i h4
      repeat' ((first|refine nI ?_|refine aI ?_|refine arU trivial (by omega) ?_|refine arB trivial (by omega) ?_|refine dI ?_|refine dR ?_|refine dP ?_|refine boxP rfl ?_|refine pI _ rfl ?_|refine rowSetI _ rfl ?_|refine tI ?_|refine fI ?_|refine cmpI (fun _ => ?_) (fun _ => ?_)) <;> conv => whnf)
      refine ⟨j + 1, (Sub.id_ 400 rfl auto_ auto_), ⟨by omega, fun y hy => ?_⟩, by dsimp only; omega⟩
      by_cases e : y = j
      · subst e; exact h4
      · exact hcon y (by omega)
  have hns : ¬ someC b.rows := fun ⟨y, h4, h5⟩ => hcon y (by omega) h5
  have hgive : ∀ (r : Br), r = b.give → tlB n k b i = r → PtA (tlB n k b i).point .nilsl := fun r h1 h2 => by
    rw [h2, h1]
    show PtA b.point .nilsl
    rw [hpt]
    rfl
  clear hcon
  refine drawN .any [44] (by decide +kernel) ?_
  conv => whnf
  refine Spec.callG (lmFind lmT1) (Mem.ofL (nwL b.rows)) (nw_in n b) (TellL.by_ (lm := lmT1) 400 (fun k y h => h) (auto_)) (newTableauF n b.rows (by omega) (by omega) hwd) ?_
  rintro u M' (⟨hnb, rfl, rfl⟩ | ⟨hnb, x, rfl, hM⟩)
  case inr =>
    refine ⟨lmFind lmT2, Mem.ofL (tlE b.rows), .tup [.top, .bool false], nw_bad hM, fun x ℓ h => (by obtain ⟨rfl, rfl⟩ := lmT1_some h; rfl), fun ℓ y h => nw_c3 h, TellA.by_ (lm := lmT2) 400 (fun k y h => h) (auto_), ?_⟩
    conv => whnf
    have e : tlB n k b i = b.give := by unfold tlB; rw [if_neg hns, if_pos hnb]
    refine ⟨rfl, .nilsl, hgive _ rfl e, .inl ?_⟩
    rw [e]
    exact (auto_)
  have T0 := new_ok hwd hnb
  have hTS := T0.s
  refine ⟨_, _, .tup [.ptr 7001 0, .bool true], nw_out n b.rows (newT n b.rows), fun x ℓ h => nw_c1 h, fun ℓ y h => nw_c2 h, TellA.by_ (lm := lm4 ++ lmT2) 400 famF_lm (auto_), ?_⟩
  conv => whnf
  refine Spec.callG (f1S b.rows.length) (tabN n (newT n b.rows) b.rows.length (-1) 9000 [] [] (tabC (newT n b.rows))) (sv_in n b (newT n b.rows)) (TellL.by_ (lm := lm4 ++ []) 400 (fun k y h => famF_lm k y h) (auto_)) (solveF n b.rows.length (newT n b.rows) hTS (by omega) (by omega)) ?_
  rintro u M' (⟨t, bad, hsl, rfl, hS, hh, hT⟩ | ⟨hsl, rfl, hh⟩)
  case inr =>
    refine ⟨famF lm4 (dbP b.rows.length), overM dbL (dbR b.rows.length), .bool false, db_retell hh, fun x ℓ hx => pb_old (by omega) (fun k hk => dbP_d hk) hx, fun ℓ y hy => (db_new (M := mdN n b (newT n b.rows)) hy), fun S ρ v h => ((avR_ok 400).1 (.bool false) (.bool false) v rfl h).mono (Store.le_refl _) (envG_le (lm := []) (fun k y h => by cases h)), ?_⟩
    conv => whnf
    have e : tlB n k b i = b.give := by unfold tlB; rw [if_neg hns, if_neg (fun h => h hnb), hsl]
    refine ⟨rfl, .nilsl, hgive _ rfl e, .inl ?_⟩
    rw [e]
    exact (auto_)
  refine ⟨famF lm4 (pbP b.rows.length (fun k => 20000 + k)), overM (tabG n t b.rows.length bad 30000 []) (pbR b.rows.length (tabC t)), .bool true, pb_retell hT hh (by omega), fun x ℓ hx => pb_old (by omega) (fun k hk => pbP_d hk) hx, fun ℓ y hy => sv_c2 (by omega) hy, fun S ρ v h => ((avR_ok 400).1 (.bool true) (.bool true) v rfl h).mono (Store.le_refl _) (envG_le (lm := []) (fun k y h => by cases h)), ?_⟩
  obtain ⟨T, hbad⟩ := sl_ok 5000 T0 hsl
  have hB := T.b
  have hbs := T.bs
  have hfs := T.fs
  have e0 : tlB n k b i = if 0 ≤ bad then (match fkD n t bad.toNat with | none => b.give | some d => (addB n i b d).1) else if (frK n t b.rows.length).1 < 0 then (if pntB (ptK n t b.rows.length) then { b with point := some (ptK n t b.rows.length) } else b.give) else spB n k b i (frK n t b.rows.length).1 (frK n t b.rows.length).2 := by
    unfold tlB; rw [if_neg hns, if_neg (fun h => h hnb), hsl]; rfl
  clear hT hh hsl hTS T0
  conv => whnf
  refine cmpI (fun h2 => ?_) (fun h2 => ?_) <;> conv => whnf
  · obtain ⟨q, rfl⟩ : ∃ q : Nat, bad = (q : Int) := ⟨bad.toNat, by omega⟩
    have h2' : (0 : Int) ≤ (q : Int) := h2
    rw [if_pos h2', Int.toNat_natCast] at e0
    have hq : q < b.rows.length := by rcases hbad with hb1 | hb1 <;> omega
    have hli := lin_new h ha
    refine Spec.leakA tlA (Spec.of_pure (n := 5) (farkasF n b.rows.length t q hS hB (by omega) (by omega) hq (fun i hi => by have := hbs i hi; omega) (fun i hi => by have := hfs i hi; omega) (fun j hj => T.cb q j hq hj)) rfl ?_) (tab_leak (mdS_only (by omega)) T.cm)
    rintro u (⟨d, hd, rfl⟩ | ⟨hd, ⟨d, rfl⟩ | rfl⟩)
    · rw [hd] at e0
      dsimp only at e0
      conv => whnf
      refine Spec.call [(6001, .old 6001), (6002, .old 1000), (6003, .old 1001)] (brL n b.rows b.nodes b.lines b.left false) 400 rfl (auto_) (auto_) (addF n i b.rows b.nodes b.lines b.left false d hn96 hrdy (by omega) (by omega) (by omega) (fkD_ok hd (by omega)) (by omega)) ?_
      rintro u M' (⟨hdv, rfl, rfl⟩ | ⟨hdv, rfl, rfl⟩)
      · rw [addB_t hdv] at e0
        refine ⟨[(6001, .old 6001), (1000, .old 6002), (1001, .old 6003), (1002, .old 6004), (1003, .old 6005)], [(6001, .box 53 (bxC n 1002 (b.rows ++ [dvR n b.rows d]).length 1003 (nodA b.nodes i d).length (b.lines + 1) b.left .nilsl false)), (1000, .dead), (1001, .dead), (1002, .row 42 row0 encRw (b.rows ++ [dvR n b.rows d])), (1003, .row 63 nod0 encNo (nodA b.nodes i d))], .bool true, rfl, (auto_), rfl, ?_⟩
        conv => whnf
        rw [e0]
        refine ⟨rfl, .nilsl, (by show PtA b.point .nilsl; rw [hpt]; rfl), .inr (.inl ?_)⟩
        dsimp only
        rw [hg]
        exact (auto_)
      · rw [addB_f hdv] at e0
        refine ⟨[(6001, .old 6001), (1000, .old 6002), (1001, .old 6003), (1002, .old 6004), (1003, .old 6005)], [(6001, .box 53 (bxC n 1002 b.rows.length 1003 b.nodes.length b.lines b.left .nilsl true)), (1000, .dead), (1001, .dead), (1002, .row 42 row0 encRw b.rows), (1003, .row 63 nod0 encNo b.nodes)], .bool false, rfl, (auto_), rfl, ?_⟩
        conv => whnf
        rw [e0]
        exact ⟨rfl, .nilsl, (by show PtA b.point .nilsl; rw [hpt]; rfl), .inr (.inl (auto_))⟩
    · rw [hd] at e0
      dsimp only at e0
      conv => whnf
      rw [e0]
      exact ⟨rfl, .nilsl, (by show PtA b.point .nilsl; rw [hpt]; rfl), .inl (auto_)⟩
    · rw [hd] at e0
      dsimp only at e0
      conv => whnf
      rw [e0]
      exact ⟨rfl, .nilsl, (by show PtA b.point .nilsl; rw [hpt]; rfl), .inl (auto_)⟩
  · have h2' : ¬ (0 : Int) ≤ bad := h2
    rw [if_neg h2'] at e0
    have hcl : ∀ j, j < b.rows.length → 0 ≤ cl t j 0 := by
      rcases hbad with hb1 | hb1
      · exact hb1.2
      · omega
    have hbas : ∀ j, j < b.rows.length → 0 ≤ t.bas.getD j 0 := fun j hj => (hbs j hj).1
    have hfr := frK_rng (n := n) hbas T.dp.1 hcl b.rows.length (Nat.le_refl _)
    have hfb := frK_b (n := n) hB b.rows.length (Nat.le_refl _)
    refine Spec.borrowG (fractionF n b.rows.length t bad hS hB (by omega) (by omega)) (tab_conv1 (mdS_mat (by omega)) T.cm) (fun u hu => by rw [hu]; rfl) ?_
    rintro u rfl
    conv => whnf
    refine cmpI (fun h3 => ?_) (fun h3 => ?_) <;> conv => whnf
    · rw [if_pos h3] at e0
      by_cases hn0 : n = 0
      · subst hn0
        have hp0 : ptK 0 t b.rows.length = [] := List.eq_nil_of_length_eq_zero (ptK_len 0 t _)
        rw [hp0, if_pos (show pntB [] from fun j hj => absurd hj (Nat.not_lt_zero _))] at e0
        refine Spec.leakA tlA (Spec.of_pure (n := 5) (pointZ b.rows.length t bad hS (by omega) hbas) rfl ?_) (tab_leak (mdS_only (by omega)) T.cm)
        rintro u ⟨ad, rfl⟩
        conv => whnf
        refine Spec.call [(6001, .old 6001), (6002, .old 1000), (6003, .old 1001)] (brL 0 b.rows b.nodes b.lines b.left false) 400 rfl (auto_) (auto_) (takeZ 0 b.rows b.nodes b.lines b.left false ad) ?_
        rintro u M' ⟨rfl, rfl⟩
        refine ⟨[(6001, .old 6001), (1000, .old 6002), (1001, .old 6003), (1002, .old 6004), (1003, .old 6005)], [(6001, .box 53 (bxC 0 1002 b.rows.length 1003 b.nodes.length b.lines b.left (.val (.slice (some ad) 0 0)) false)), (1000, .dead), (1001, .dead), (1002, .row 42 row0 encRw b.rows), (1003, .row 63 nod0 encNo b.nodes)], .tup [], rfl, (auto_), trivial, ?_⟩
        conv => whnf
        rw [e0]
        refine ⟨rfl, .val (.slice (some ad) 0 0), .inr ⟨rfl, ad, rfl⟩, .inr (.inl ?_)⟩
        dsimp only
        rw [hg]
        exact (auto_)
      · have hpl := ptK_len n t b.rows.length
        have hpne : ptK n t b.rows.length ≠ [] := fun e => by rw [e] at hpl; simp at hpl; omega
        refine Spec.leakA tlA (Spec.of_pure (n := 5) (pointF n b.rows.length t bad hS hB (by omega) (by omega) hbas) rfl ?_) (tab_leak (mdS_only (by omega)) T.cm)
        rintro u rfl
        conv => whnf
        refine Spec.call [(6001, .old 6001), (6002, .old 1000), (6003, .old 1001)] (brL n b.rows b.nodes b.lines b.left false) 400 rfl (auto_) (auto_) (takeF n b.rows b.nodes b.lines b.left false (ptK n t b.rows.length) (by omega)) ?_
        rintro u M' ⟨rfl, ⟨hp, rfl⟩ | ⟨hp, rfl⟩⟩
        · refine ⟨[(6001, .old 6001), (1000, .old 6002), (1001, .old 6003), (1002, .old 6004), (1003, .old 6005)], [(6001, .box 53 (bxC n 1002 b.rows.length 1003 b.nodes.length b.lines b.left (.sl 0 encI (ptK n t b.rows.length)) false)), (1000, .dead), (1001, .dead), (1002, .row 42 row0 encRw b.rows), (1003, .row 63 nod0 encNo b.nodes)], .tup [], rfl, (auto_), trivial, ?_⟩
          conv => whnf
          rw [e0, if_pos hp]
          refine ⟨rfl, .sl 0 encI (ptK n t b.rows.length), .inl ⟨hpne, rfl⟩, .inr (.inl ?_)⟩
          dsimp only
          rw [hg]
          exact (auto_)
        · refine ⟨[(6001, .old 6001), (1000, .old 6002), (1001, .old 6003), (1002, .old 6004), (1003, .old 6005)], [(6001, .box 53 (bxC n 1002 b.rows.length 1003 b.nodes.length b.lines b.left .nilsl true)), (1000, .dead), (1001, .dead), (1002, .row 42 row0 encRw b.rows), (1003, .row 63 nod0 encNo b.nodes)], .tup [], rfl, (auto_), trivial, ?_⟩
          conv => whnf
          rw [e0, if_neg hp]
          exact ⟨rfl, .nilsl, (by show PtA b.point .nilsl; rw [hpt]; rfl), .inr (.inl (auto_))⟩
    · rw [if_neg h3] at e0
      rw [e0]
      refine Spec.wk (Wk.leakBox (ℓ := 1000) (ℓb := 6001) rfl rfl) ?_
      refine Spec.call [(6001, .old 6001), (6002, .old 1000), (6003, .old 1001)] (brS n b.rows b.nodes b.lines b.left false) 400 rfl (auto_) (auto_) (splitF n k i b b _ _ h ha hg (by omega) (by omega) (by omega) hW ih) ?_
      rintro u M' ⟨rfl, pc, hpc, rfl⟩
      rcases PtA_cases hpc with ⟨hp, rfl⟩ | ⟨x, hp, hx, rfl⟩ | ⟨ad, hp, rfl⟩
      · refine ⟨[(6001, .old 6001), (1000, .old 6002), (1001, .old 6003), (1005, .old 6005)], [(6001, .box 53 (bxS n (spB n k b i (frK n t b.rows.length).1 (frK n t b.rows.length).2).rows 1005 (spB n k b i (frK n t b.rows.length).1 (frK n t b.rows.length).2).nodes.length (spB n k b i (frK n t b.rows.length).1 (frK n t b.rows.length).2).lines (spB n k b i (frK n t b.rows.length).1 (frK n t b.rows.length).2).left .nilsl (spB n k b i (frK n t b.rows.length).1 (frK n t b.rows.length).2).gave)), (1000, .dead), (1001, .dead), (1005, .row 63 nod0 encNo (spB n k b i (frK n t b.rows.length).1 (frK n t b.rows.length).2).nodes)], .tup [], rfl, (auto_), trivial, ?_⟩
        conv => whnf
        exact ⟨rfl, .nilsl, hpc, .inr (.inr (auto_))⟩
      · refine ⟨[(6001, .old 6001), (1000, .old 6002), (1001, .old 6003), (1005, .old 6005)], [(6001, .box 53 (bxS n (spB n k b i (frK n t b.rows.length).1 (frK n t b.rows.length).2).rows 1005 (spB n k b i (frK n t b.rows.length).1 (frK n t b.rows.length).2).nodes.length (spB n k b i (frK n t b.rows.length).1 (frK n t b.rows.length).2).lines (spB n k b i (frK n t b.rows.length).1 (frK n t b.rows.length).2).left (.sl 0 encI x) (spB n k b i (frK n t b.rows.length).1 (frK n t b.rows.length).2).gave)), (1000, .dead), (1001, .dead), (1005, .row 63 nod0 encNo (spB n k b i (frK n t b.rows.length).1 (frK n t b.rows.length).2).nodes)], .tup [], rfl, (auto_), trivial, ?_⟩
        conv => whnf
        exact ⟨rfl, .sl 0 encI x, hpc, .inr (.inr (auto_))⟩
      · refine ⟨[(6001, .old 6001), (1000, .old 6002), (1001, .old 6003), (1005, .old 6005)], [(6001, .box 53 (bxS n (spB n k b i (frK n t b.rows.length).1 (frK n t b.rows.length).2).rows 1005 (spB n k b i (frK n t b.rows.length).1 (frK n t b.rows.length).2).nodes.length (spB n k b i (frK n t b.rows.length).1 (frK n t b.rows.length).2).lines (spB n k b i (frK n t b.rows.length).1 (frK n t b.rows.length).2).left (.val (.slice (some ad) 0 0)) (spB n k b i (frK n t b.rows.length).1 (frK n t b.rows.length).2).gave)), (1000, .dead), (1001, .dead), (1005, .row 63 nod0 encNo (spB n k b i (frK n t b.rows.length).1 (frK n t b.rows.length).2).nodes)], .tup [], rfl, (auto_), trivial, ?_⟩
        conv => whnf
        exact ⟨rfl, .val (.slice (some ad) 0 0), hpc, .inr (.inr (auto_))⟩
end Go.Proofs.Ytgjmbmdaaahmkaa
