
/-
  The enabled steps of a configuration, by the program.
-/
import Derived.Test.YtgbicnldbhfhiaaDoorFoM
import Derived.Test.YtgbicnldbhfhiaaDoorSymZd
set_option linter.unusedVariables false
set_option linter.unusedSimpArgs false
namespace Go.Proofs.YtgbicnldbhfhiaaDoor
set_option maxRecDepth 100000
set_option maxHeartbeats 16000000

noncomputable def stP (p : Pro) (s : Siz) (c : Cfg) (r i m : Nat) : List Stp := ((List.range m).map fun k : Nat => (⟨(r : Int), (i : Int), (k : Int) - 1⟩ : Stp)).filter fun x => decide (enB p s c x false)
noncomputable def stI (p : Pro) (s : Siz) (c : Cfg) (r m : Nat) : List Stp := (List.range m).flatMap fun i => stP p s c r i (c.states.length + 1)
noncomputable def stA (p : Pro) (s : Siz) (c : Cfg) (m : Nat) : List Stp := (List.range m).flatMap fun r => stI p s c r c.states.length
theorem stP_up (p : Pro) (s : Siz) (c : Cfg) (r i m : Nat) : stP p s c r i (m + 1) = stP p s c r i m ++ if enB p s c ⟨r, i, (m : Int) - 1⟩ false then [⟨r, i, (m : Int) - 1⟩] else [] := by
  unfold stP
  rw [List.range_succ, List.map_append, List.filter_append]
  congr 1
  by_cases h : enB p s c ⟨r, i, (m : Int) - 1⟩ false
  · rw [if_pos h]; simp [h]
  · rw [if_neg h]; simp [h]
theorem stI_up (p : Pro) (s : Siz) (c : Cfg) (r m : Nat) : stI p s c r (m + 1) = stI p s c r m ++ stP p s c r m (c.states.length + 1) := by
  unfold stI; rw [List.range_succ, List.flatMap_append]; simp
theorem stA_up (p : Pro) (s : Siz) (c : Cfg) (m : Nat) : stA p s c (m + 1) = stA p s c m ++ stI p s c m c.states.length := by
  unfold stA; rw [List.range_succ, List.flatMap_append]; simp
theorem stP_len (p : Pro) (s : Siz) (c : Cfg) (r i m : Nat) : (stP p s c r i m).length ≤ m := by
  unfold stP
  exact Nat.le_trans (List.length_filter_le _ _) (by simp)
theorem stI_len (p : Pro) (s : Siz) (c : Cfg) (r : Nat) : ∀ m, (stI p s c r m).length ≤ m * (c.states.length + 1)
  | 0 => by simp [stI]
  | m + 1 => by
    rw [stI_up, List.length_append, Nat.add_mul, Nat.one_mul]
    have := stI_len p s c r m
    have := stP_len p s c r m (c.states.length + 1)
    omega
theorem stA_len (p : Pro) (s : Siz) (c : Cfg) : ∀ m, (stA p s c m).length ≤ m * (c.states.length * (c.states.length + 1))
  | 0 => by simp [stA]
  | m + 1 => by
    rw [stA_up, List.length_append, Nat.add_mul, Nat.one_mul]
    have := stA_len p s c m
    have := stI_len p s c m c.states.length
    omega
def rowX (l : List Stp) : Blk := .row 44 stp0 encX l
/-- the list that a loop collects, in a box of the caller's own -/
def mI (l : List Stp) : List (Nat × Blk) := [(9, .box 40 [.row 2000 l.length 3]), (2000, rowX l)]
theorem stepsS (p : Pro) (s : Siz) (c : Cfg) : PSpec Tryd.prog 27 [.agg (encV p s c)] (fun u => u = .fn 41 [.pd (encV p s c)]) := by
  refine PSpec.intro tt_ok mx_ok Tryd.func27 rfl (by decide) ?_; (conv => whnf)
  refine boxP rfl ?_
  conv => whnf
  exact ⟨rfl, rfl⟩
theorem iterF (p : Pro) (s : Siz) (c : Cfg) (h : Rdy p s c) {C : Cond} (hC : ∀ S S' F ρ0, Store.le S S' → C S F ρ0 → C S' F ρ0) (v : Value)
    (hY : ∀ (pre : List Stp) (x : Stp), pre.length ≤ 1000000 → YS Tryd.prog C [9] v [.agg (encX x)] (Mem.ofL (mI pre)) (fun u M => u = .bool true ∧ M = Mem.ofL (mI (pre ++ [x])))) :
    SpecY Tryd.prog C [9] 41 [.val v, .pd (encV p s c)] (Mem.ofL (mI [])) (fun _ M => M = Mem.ofL (mI (stA p s c p.rules.length))) := by
  have hc := wide_le h.wide
  have hle := bigP_le h.big
  refine SpecY.intro tt_ok hC Tryd.func41 rfl (by decide) ?_
  conv => whnf
  have hRl : p.rules.length ≤ 30 := by omega
  have hbA : ∀ k1, k1 ≤ p.rules.length → (stA p s c k1).length ≤ 30 * 10100 := fun k1 hk => by
    have h1 := stA_len p s c k1
    have h2 : c.states.length * (c.states.length + 1) ≤ 100 * 101 := Nat.mul_le_mul (by omega) (by omega)
    have h3 : k1 * (c.states.length * (c.states.length + 1)) ≤ 30 * 10100 := Nat.mul_le_mul (by omega) h2
    omega
  have hbI : ∀ k1 k2, k2 ≤ c.states.length → (stI p s c k1 k2).length ≤ 10100 := fun k1 k2 hk => by
    have h1 := stI_len p s c k1 k2
    have h2 : k2 * (c.states.length + 1) ≤ 100 * 101 := Nat.mul_le_mul (by omega) (by omega)
    omega
  have hbP := fun k1 k2 k3 => stP_len p s c k1 k2 k3
  refine WPy.loopF tt_ok hC (fun k1 : Nat => k1 ≤ p.rules.length) (fun k1 => [(11, .int .i64 (k1 : Int))]) (fun k1 => mI (stA p s c k1)) (fun k1 => p.rules.length - k1) 0 (Nat.zero_le _) ?_
  conv => whnf
  refine ⟨Sub.id_ 400 rfl (auto_) (auto_), ?_⟩
  rintro k1 hk1
  conv => whnf
  refine cmpI (fun g1 => ?_) (fun g1 => ?_) <;> conv => whnf
  · refine WPy.loopF tt_ok hC (fun k2 : Nat => k2 ≤ c.states.length) (fun k2 => [(18, .int .i64 (k2 : Int))]) (fun k2 => mI (stA p s c k1 ++ stI p s c k1 k2)) (fun k2 => c.states.length - k2) 0 (Nat.zero_le _) ?_
    conv => whnf
    have e0 : stA p s c k1 ++ stI p s c k1 0 = stA p s c k1 := by simp [stI]
    refine ⟨by rw [e0]; exact Sub.id_ 400 rfl (auto_) (auto_), ?_⟩
    rintro k2 hk2
    conv => whnf
    refine cmpI (fun g2 => ?_) (fun g2 => ?_) <;> conv => whnf
    · refine WPy.loopF tt_ok hC (fun k3 : Nat => k3 ≤ c.states.length + 1) (fun k3 => [(5, .int .i64 ((k3 : Int) - 1))]) (fun k3 => mI (stA p s c k1 ++ stI p s c k1 k2 ++ stP p s c k1 k2 k3)) (fun k3 => c.states.length + 1 - k3) 0 (Nat.zero_le _) ?_
      conv => whnf
      have e1 : stA p s c k1 ++ stI p s c k1 k2 ++ stP p s c k1 k2 0 = stA p s c k1 ++ stI p s c k1 k2 := by simp [stP]
      refine ⟨by rw [e1]; exact Sub.id_ 400 rfl (auto_) (auto_), ?_⟩
      rintro k3 hk3
      conv => whnf
      refine cmpI (fun g3 => ?_) (fun g3 => ?_) <;> conv => whnf
      · have hup := stP_up p s c k1 k2 k3
        have hl1 := hbA k1 hk1
        have hl2 := hbI k1 k2 hk2
        have hl3 := hbP k1 k2 k3
        refine Spec.dcall (n := 5) (enabledV p s c ⟨k1, k2, (k3 : Int) - 1⟩ false h) rfl (fun _ => ?_) (fun _ => ?_) <;> (conv => whnf)
        · rename_i hen
          rw [if_pos hen] at hup
          refine YCI (mI (stA p s c k1 ++ stI p s c k1 k2 ++ stP p s c k1 k2 k3)) rfl ?_
          conv => whnf
          refine ⟨Sub.id_ 400 rfl (auto_) (auto_), (hY _ ⟨k1, k2, (k3 : Int) - 1⟩ (by simp only [List.length_append]; omega)).mono ?_⟩
          rintro u M ⟨rfl, rfl⟩
          conv => whnf
          repeat' (first
              | (refine needI (by first | omega | (dsimp only; omega)) ?_; conv => whnf)
              | (refine arI trivial (by omega) ?_; conv => whnf)
              | (refine cmpT (by omega) ?_; conv => whnf)
              | (refine cmpF (by omega) ?_; conv => whnf)
              | fail)
          have e3 : stA p s c k1 ++ stI p s c k1 k2 ++ stP p s c k1 k2 k3 ++ [⟨k1, k2, (k3 : Int) - 1⟩] = stA p s c k1 ++ stI p s c k1 k2 ++ stP p s c k1 k2 (k3 + 1) := by rw [hup, ← List.append_assoc]
          refine ⟨k3 + 1, ?_, by omega, by dsimp only; omega⟩
          dsimp only
          rw [← e3]
          exact Sub.id_ 400 rfl (auto_) (auto_)
        · rename_i hen
          rw [if_neg hen, List.append_nil] at hup
          repeat' (first
              | (refine needI (by first | omega | (dsimp only; omega)) ?_; conv => whnf)
              | (refine arI trivial (by omega) ?_; conv => whnf)
              | (refine cmpT (by omega) ?_; conv => whnf)
              | (refine cmpF (by omega) ?_; conv => whnf)
              | fail)
          refine ⟨k3 + 1, ?_, by omega, by dsimp only; omega⟩
          dsimp only
          rw [hup]
          exact Sub.id_ 400 rfl (auto_) (auto_)
      · have ek : k3 = c.states.length + 1 := by omega
        have e2 : stA p s c k1 ++ stI p s c k1 k2 ++ stP p s c k1 k2 k3 = stA p s c k1 ++ stI p s c k1 (k2 + 1) := by rw [ek, stI_up, List.append_assoc]
        repeat' (first
            | (refine needI (by first | omega | (dsimp only; omega)) ?_; conv => whnf)
            | (refine arI trivial (by omega) ?_; conv => whnf)
            | (refine cmpT (by omega) ?_; conv => whnf)
            | (refine cmpF (by omega) ?_; conv => whnf)
            | fail)
        refine ⟨k2 + 1, ?_, by omega, by dsimp only; omega⟩
        dsimp only
        rw [← e2]
        exact Sub.id_ 400 rfl (auto_) (auto_)
    · have ek : k2 = c.states.length := by omega
      have e2 : stA p s c k1 ++ stI p s c k1 k2 = stA p s c (k1 + 1) := by rw [ek, stA_up]
      repeat' (first
          | (refine needI (by first | omega | (dsimp only; omega)) ?_; conv => whnf)
          | (refine arI trivial (by omega) ?_; conv => whnf)
          | (refine cmpT (by omega) ?_; conv => whnf)
          | (refine cmpF (by omega) ?_; conv => whnf)
          | fail)
      refine ⟨k1 + 1, ?_, by omega, by dsimp only; omega⟩
      dsimp only
      rw [← e2]
      exact Sub.id_ 400 rfl (auto_) (auto_)
  · obtain rfl : k1 = p.rules.length := by omega
    exact rfl
def sxA (l : List Stp) (e : Int) : AV := .tup [.sl stp0 encX l, .int .i64 e]
def sxU (v : AV) : AV → Prop := fun u => u = v ∨ ∃ e, u = .tup [.nilsl, .int .i64 e] ∧ v = sxA [] e
theorem PSpec.sx {f : FuncId} {args : List AV} {v : AV} (hf : ∃ l e, v = sxA l e) (h : PSpec Tryd.prog f args (sxU v)) : PSpec Tryd.prog f args (fun u => u = v) := by
  obtain ⟨l, e, rfl⟩ := hf
  refine PSpec.sub h ?_
  rintro u (rfl | ⟨e', rfl, h2⟩)
  · exact ⟨_, rfl, auto_, rfl⟩
  · rw [h2]; exact ⟨_, rfl, auto_, rfl⟩
noncomputable def stE (p : Pro) (s : Siz) (c : Cfg) : AV := if vconE p s c ≠ 0 then sxA [] (vconE p s c) else sxA (stA p s c p.rules.length) 0
theorem stE_form (p : Pro) (s : Siz) (c : Cfg) : ∃ l e, stE p s c = sxA l e := by
  unfold stE
  split
  · exact ⟨_, _, rfl⟩
  · exact ⟨_, _, rfl⟩
theorem StepsF (p : Pro) (s : Siz) (c : Cfg) (hp : ¬ bigP p) (hw : wideB c = false) : PSpec Tryd.prog 11 [.agg (encP p), .agg (encZ s), .agg (encC c)] (fun u => u = stE p s c) := by
  have he := stE.eq_1 p s c
  refine PSpec.sx (stE_form p s c) ?_
  refine PSpec.introY tt_ok Tryd.func11 rfl (by decide) ?_
  conv => whnf
  refine boxP rfl ?_
  conv => whnf
  refine boxP rfl ?_
  conv => whnf
  refine boxP rfl ?_
  conv => whnf
  (refine Spec.of_pure (n := 5) (ValidConfigF p s c hp hw) rfl ?_; rintro _ rfl; conv => whnf)
  refine cmpI (fun h1 => ?_) (fun h1 => ?_) <;> conv => whnf
  · rw [if_pos h1] at he; exact ⟨.inr ⟨_, rfl, he⟩, rfl⟩
  rw [if_neg h1] at he
  have h := Rdy.of (s := s) hp hw (by omega)
  (refine Spec.of_pure (n := 5) (seeF p s c hw) rfl ?_; rintro _ rfl; conv => whnf)
  (refine Spec.of_pure (n := 5) (stepsS p s c) rfl ?_; rintro _ rfl; conv => whnf)
  refine WPy.subM anyC_mono (Sub.by_ [(9, .old 9), (2000, .nil 3)] (mI []) 400 rfl (auto_) (auto_)) ?_
  refine WPy.range [9] (fun M' => M' = Mem.ofL (mI (stA p s c p.rules.length))) rfl rfl rfl (fun l r h1 h2 h3 h4 h5 => iterF p s c h (recC_mono l r _) _ (fun pre x hpre => ?_)) (fun M' hM' => ?_)
  · refine YS.round tt_ok h1 h2 h3 h4 h5 ?_
    conv => whnf
    refine bldI stp0 encX [x] rfl ?_
    conv => whnf
    refine appI [x] rfl (by simp only [List.length_cons, List.length_nil]; omega) ?_
    conv => whnf
    exact ⟨mI (pre ++ [x]), Sub.by_ [(9, .old 9), (2000, .old 27)] _ 400 rfl (auto_) trivial, rfl, rfl⟩
  · subst hM'
    conv => whnf
    exact ⟨.inl he.symm, rfl⟩
end Go.Proofs.YtgbicnldbhfhiaaDoor
