import Derived.Test.YtaeomngmcfdfpaaGreatDoorM7
import Derived.Test.YtaeomngmcfdfpaaGreatDoorG5
set_option linter.unusedVariables false
set_option linter.unusedSimpArgs false
namespace Go.Proofs.YtaeomngmcfdfpaaGreatDoor
set_option maxRecDepth 100000
set_option maxHeartbeats 16000000
noncomputable def stP (p : Pro) (s : Siz) (c : Cfg) (r i m : Nat) : List Stp := ((List.range m).map fun k : Nat => (⟨(r : Int), (i : Int), (k : Int) - 1⟩ : Stp)).filter fun x => decide (enB p s c x false)
noncomputable def stI (p : Pro) (s : Siz) (c : Cfg) (r m : Nat) : List Stp := (List.range m).flatMap fun i => stP p s c r i (c.states.length + 1)
noncomputable def stA (p : Pro) (s : Siz) (c : Cfg) (m : Nat) : List Stp := (List.range m).flatMap fun r => stI p s c r c.states.length
theorem stP_up (p : Pro) (s : Siz) (c : Cfg) (r i m : Nat) : stP p s c r i (m + 1) = stP p s c r i m ++ if enB p s c ⟨r, i, (m : Int) - 1⟩ false then [⟨r, i, (m : Int) - 1⟩] else [] := by
 unfold stP
 rw [List.range_succ, List.map_append, List.filter_append]
 congr 1
 by_cases h : enB p s c ⟨r, i, (m : Int) - 1⟩ false
 ·rw [if_pos h]; simp [h]
 ·rw [if_neg h]; simp [h]
theorem stI_up (p : Pro) (s : Siz) (c : Cfg) (r m : Nat) : stI p s c r (m + 1) = stI p s c r m ++ stP p s c r m (c.states.length + 1) := by
 unfold stI; rw [List.range_succ, List.flatMap_append]; simp
theorem stA_up (p : Pro) (s : Siz) (c : Cfg) (m : Nat) : stA p s c (m + 1) = stA p s c m ++ stI p s c m c.states.length := by
 unfold stA; rw [List.range_succ, List.flatMap_append]; simp
theorem stP_len (p : Pro) (s : Siz) (c : Cfg) (r i m : Nat) : (stP p s c r i m).length ≤ m := by
 unfold stP
 exact Nat.le_trans (List.length_filter_le _ _) (by simp)
theorem stI_len (p : Pro) (s : Siz) (c : Cfg) (r : Nat) : ∀ m, (stI p s c r m).length ≤ m * (c.states.length + 1)
 |0 => by simp [stI]
 |m + 1 => by
  rw [stI_up, List.length_append, Nat.add_mul, Nat.one_mul]
  have := stI_len p s c r m
  have := stP_len p s c r m (c.states.length + 1)
  omega
theorem stA_len (p : Pro) (s : Siz) (c : Cfg) : ∀ m, (stA p s c m).length ≤ m * (c.states.length * (c.states.length + 1))
 |0 => by simp [stA]
 |m + 1 => by
  rw [stA_up, List.length_append, Nat.add_mul, Nat.one_mul]
  have := stA_len p s c m
  have := stI_len p s c m c.states.length
  omega
def rowX (l : List Stp) : Blk := .row 90 stp0 encX l
theorem stepsS (p : Pro) (s : Siz) (c : Cfg) : PSpec Tryz.prog 74 [.agg (encV p s c)] (fun u => u = .fn 114 [.pd (encV p s c)]) := by
 refine PSpec.intro tt_ok mx_ok Tryz.func74 rfl (by decide) ?_; (conv => whnf)
 refine boxP rfl ?_
 conv => whnf
 exact ⟨rfl, rfl⟩
theorem memR_agree {lm : LMap} {n : Nat} {M M' : Mem} : ∀ (L : List (Nat × Blk)), (∀ ℓ' B', (ℓ', B') ∈ L → ∀ ℓ, lmFind lm ℓ' = some (.old ℓ) → M' ℓ = M ℓ) → memR lm n M L → memR lm n M' L
 |[], _, _ => trivial
 |(ℓ', B') :: r, h, hm => by
  obtain ⟨h1, h2⟩ := hm
  refine ⟨?_, memR_agree r (fun a b hb => h a b (List.mem_cons_of_mem _ hb)) h2⟩
  have hh := h ℓ' B' List.mem_cons_self
  revert h1
  cases e : lmFind lm ℓ' with
  |none => exact id
  |some x => cases x with
   |old ℓ => intro h1; show blkR lm n (M' ℓ) B'; rw [hh ℓ e]; exact h1
   |nil sz => exact id
theorem GoodL.subE {D : List Nat} {L : List (Nat × Blk)} (h : GoodL D L) (k : Nat) {M' : Mem} (hk : Mem.ofL L k = none) (hM : ∀ ℓ, ℓ ≠ k → M' ℓ = Mem.ofL L ℓ) {fr fr' : List AV} (hf : avRs (idL L) 400 fr fr') : Sub D fr M' fr' (Mem.ofL L) := by
 refine Sub.id_ 400 h.chk (memR_agree L ?_ h.mem) hf
 intro ℓ' B' hb ℓ hl
 have h1 := lmFind_mem hl
 unfold idL at h1
 obtain ⟨q, hq, e⟩ := List.mem_map.1 h1
 simp only [Prod.mk.injEq, LM.old.injEq] at e
 refine hM ℓ fun e2 => ?_
 have := ofL_some hq
 rw [e.2, e2] at this
 exact this hk
theorem iterG (p : Pro) (s : Siz) (c : Cfg) (h : Rdy p s c) {C : Cond} (hC : ∀ S S' F ρ0, Store.le S S' → C S F ρ0 → C S' F ρ0) {D : List Nat} {X : Type} (I : List Stp → X → Prop) (J : X → Prop) (mem : X → List (Nat × Blk)) (hG : ∀ x, GoodL D (mem x)) (hN : ∀ x, Mem.ofL (mem x) 6 = none) (v : Value)
  (hY : ∀ (pre : List Stp) (x : X) (st : Stp), pre.length ≤ 1000000 → I pre x → enB p s c st false → YS Tryz.prog C D v [.agg (encX st)] (Mem.ofL (mem x)) (fun u M => ∃ x', M = Mem.ofL (mem x') ∧ ((u = .bool true ∧ I (pre ++ [st]) x') ∨ (u = .bool false ∧ J x'))))
  (x0 : X) (h0 : I [] x0) : SpecY Tryz.prog C D 114 [.val v, .pd (encV p s c)] (Mem.ofL (mem x0)) (fun _ M => ∃ x', M = Mem.ofL (mem x') ∧ (I (stA p s c p.rules.length) x' ∨ J x')) := by
 have hc := wide_le h.wide
 have hle := bigP_le h.big
 refine SpecY.intro tt_ok mx_ok hC Tryz.func114 rfl (by decide) ?_
 conv => whnf
 have hRl : p.rules.length ≤ 30 := by omega
 have hbA : ∀ k1, k1 ≤ p.rules.length → (stA p s c k1).length ≤ 30 * 10100 := fun k1 hk => by
  have h1 := stA_len p s c k1
  have h2 : c.states.length * (c.states.length + 1) ≤ 100 * 101 := Nat.mul_le_mul (by omega) (by omega)
  have h3 : k1 * (c.states.length * (c.states.length + 1)) ≤ 30 * 10100 := Nat.mul_le_mul (by omega) h2
  omega
 have hbI : ∀ k1 k2, k2 ≤ c.states.length → (stI p s c k1 k2).length ≤ 10100 := fun k1 k2 hk => by
  have h1 := stI_len p s c k1 k2
  have h2 : k2 * (c.states.length + 1) ≤ 100 * 101 := Nat.mul_le_mul (by omega) (by omega)
  omega
 have hbP := fun k1 k2 k3 => stP_len p s c k1 k2 k3
 refine WPy.loopF tt_ok mx_ok hC (fun z : Nat × X => z.1 ≤ p.rules.length ∧ I (stA p s c z.1) z.2) (fun z => [(11, .int .i64 (z.1 : Int))]) (fun z => mem z.2) (fun z => p.rules.length - z.1) (0, x0) ⟨Nat.zero_le _, h0⟩ ?_
 conv => whnf
 refine ⟨(hG _).sub (auto_), ?_⟩
 rintro ⟨k1, x1⟩ ⟨hk1, i1⟩
 dsimp only at hk1 i1 ⊢
 conv => whnf
 refine cmpI ?_ ?_ <;> (intro g1; conv => whnf)
 ·have e0 : stA p s c k1 ++ stI p s c k1 0 = stA p s c k1 := by simp [stI]
  refine WPy.loopF tt_ok mx_ok hC (fun z : Nat × X => z.1 ≤ c.states.length ∧ I (stA p s c k1 ++ stI p s c k1 z.1) z.2) (fun z => [(18, .int .i64 (z.1 : Int))]) (fun z => mem z.2) (fun z => c.states.length - z.1) (0, x1) ⟨Nat.zero_le _, by dsimp only; rw [e0]; exact i1⟩ ?_
  conv => whnf
  refine ⟨(hG _).sub (auto_), ?_⟩
  rintro ⟨k2, x2⟩ ⟨hk2, i2⟩
  dsimp only at hk2 i2 ⊢
  conv => whnf
  refine cmpI ?_ ?_ <;> (intro g2; conv => whnf)
  ·have e1 : stA p s c k1 ++ stI p s c k1 k2 ++ stP p s c k1 k2 0 = stA p s c k1 ++ stI p s c k1 k2 := by simp [stP]
   refine WPy.loopF tt_ok mx_ok hC (fun z : Nat × X => z.1 ≤ c.states.length + 1 ∧ I (stA p s c k1 ++ stI p s c k1 k2 ++ stP p s c k1 k2 z.1) z.2) (fun z => [(5, .int .i64 ((z.1 : Int) - 1))]) (fun z => mem z.2) (fun z => c.states.length + 1 - z.1) (0, x2) ⟨Nat.zero_le _, by dsimp only; rw [e1]; exact i2⟩ ?_
   conv => whnf
   refine ⟨(hG _).sub (auto_), ?_⟩
   rintro ⟨k3, x3⟩ ⟨hk3, i3⟩
   dsimp only at hk3 i3 ⊢
   conv => whnf
   refine cmpI ?_ ?_ <;> (intro g3; conv => whnf)
   ·have hup := stP_up p s c k1 k2 k3
    have hl1 := hbA k1 hk1
    have hl2 := hbI k1 k2 hk2
    have hl3 := hbP k1 k2 k3
    have hN3 := hN x3
    rw [hN3]
    conv => whnf
    refine dC (enabledV p s c ⟨k1, k2, (k3 : Int) - 1⟩ false h) (fun _ => ?_) (fun _ => ?_) <;> (conv => whnf)
    ·rename_i hen
     rw [if_pos hen] at hup
     refine YCI (mem x3) rfl ?_
     conv => whnf
     refine ⟨(hG _).subE 6 (hN _) (fun ℓ hℓ => by simp only [Mem.set_ne _ _ hℓ]) (auto_), (hY _ x3 ⟨k1, k2, (k3 : Int) - 1⟩ (by simp only [List.length_append]; omega) i3 hen).mono ?_⟩
     have e3 : stA p s c k1 ++ stI p s c k1 k2 ++ stP p s c k1 k2 k3 ++ [⟨k1, k2, (k3 : Int) - 1⟩] = stA p s c k1 ++ stI p s c k1 k2 ++ stP p s c k1 k2 (k3 + 1) := by rw [hup, ← List.append_assoc]
     rw [e3]
     rintro u M ⟨x', rfl, ⟨rfl, i4⟩ | ⟨rfl, j4⟩⟩
     ·conv => whnf
      repeat' ((first|refine nI ?_|refine aI ?_|refine tI ?_|refine fI ?_|fail);conv => whnf)
      exact ⟨(k3 + 1, x'), (hG _).sub (auto_), ⟨by dsimp only; omega, i4⟩, by dsimp only; omega⟩
     ·conv => whnf
      exact ⟨x', rfl, .inr j4⟩
    ·rename_i hen
     rw [if_neg hen, List.append_nil] at hup
     repeat' ((first|refine nI ?_|refine aI ?_|refine tI ?_|refine fI ?_|fail);conv => whnf)
     exact ⟨(k3 + 1, x3), (hG _).subE 6 (hN _) (fun ℓ hℓ => by simp only [Mem.set_ne _ _ hℓ]) (auto_), ⟨by dsimp only; omega, by dsimp only; rw [hup]; exact i3⟩, by dsimp only; omega⟩
   ·have ek : k3 = c.states.length + 1 := by omega
    have e2 : stA p s c k1 ++ stI p s c k1 k2 ++ stP p s c k1 k2 k3 = stA p s c k1 ++ stI p s c k1 (k2 + 1) := by rw [ek, stI_up, List.append_assoc]
    rw [e2] at i3
    repeat' ((first|refine nI ?_|refine aI ?_|refine tI ?_|refine fI ?_|fail);conv => whnf)
    exact ⟨(k2 + 1, x3), (hG _).sub (auto_), ⟨by dsimp only; omega, i3⟩, by dsimp only; omega⟩
  ·have ek : k2 = c.states.length := by omega
   have e2 : stA p s c k1 ++ stI p s c k1 k2 = stA p s c (k1 + 1) := by rw [ek, stA_up]
   rw [e2] at i2
   repeat' ((first|refine nI ?_|refine aI ?_|refine tI ?_|refine fI ?_|fail);conv => whnf)
   exact ⟨(k1 + 1, x2), (hG _).sub (auto_), ⟨by dsimp only; omega, i2⟩, by dsimp only; omega⟩
 ·obtain rfl : k1 = p.rules.length := by omega
  exact ⟨x1, rfl, .inl i1⟩
theorem enB_part {p : Pro} {s : Siz} {c : Cfg} {x : Stp} {f : Bool} (h : enB p s c x f) : -1 ≤ x.partner ∧ x.partner < c.states.length := by
 have h3 := h.2.2.2
 unfold kinB at h3
 split at h3
 ·have h4 := h3.1
  unfold prtB at h4
  omega
 ·have h4 := h3.1
  omega
theorem stA_mem {p : Pro} {s : Siz} {c : Cfg} {x : Stp} : x ∈ stA p s c p.rules.length ↔ enB p s c x false := by
 unfold stA stI stP
 simp only [List.mem_flatMap, List.mem_range, List.mem_filter, List.mem_map, decide_eq_true_eq]
 constructor
 ·rintro ⟨r, hr, i, hi, ⟨k, hk, rfl⟩, h⟩; exact h
 ·intro h
  have hin := h.1
  have hpt := enB_part h
  refine ⟨x.rule.toNat, by omega, x.process.toNat, by omega, ⟨(x.partner + 1).toNat, by omega, ?_⟩, h⟩
  obtain ⟨a, b, d⟩ := x
  simp only at hin hpt ⊢
  rw [Stp.mk.injEq]
  omega
theorem stP_none {p : Pro} {s : Siz} {c : Cfg} {r i : Nat} (h : c.states.getD i 0 ≠ (p.rules.getD r rul0).src) (m : Nat) : stP p s c r i m = [] := by
 unfold stP
 rw [List.filter_eq_nil_iff]
 intro x hx hd
 simp only [List.mem_map] at hx
 obtain ⟨k, _, rfl⟩ := hx
 have he := of_decide_eq_true hd
 exact h he.2.1
theorem stepsR (p : Pro) (s : Siz) (c : Cfg) (h : Rdy p s c) : PSpec Tryz.prog 47 [.agg (encP p), .agg (encZ s), .agg (encC c)] (fun u => u = .sl stp0 encX (stA p s c p.rules.length)) := by
 have hc := wide_le h.wide
 have hle := bigP_le h.big
 have hbA : ∀ k1, k1 ≤ p.rules.length → (stA p s c k1).length ≤ 30 * 10100 := fun k1 hk => by
  have h1 := stA_len p s c k1
  have h2 : c.states.length * (c.states.length + 1) ≤ 100 * 101 := Nat.mul_le_mul (by omega) (by omega)
  have h3 : k1 * (c.states.length * (c.states.length + 1)) ≤ 30 * 10100 := Nat.mul_le_mul (by omega) h2
  omega
 have hbI : ∀ k1 k2, k2 ≤ c.states.length → (stI p s c k1 k2).length ≤ 10100 := fun k1 k2 hk => by
  have h1 := stI_len p s c k1 k2
  have h2 : k2 * (c.states.length + 1) ≤ 100 * 101 := Nat.mul_le_mul (by omega) (by omega)
  omega
 have hbP := fun k1 k2 k3 => stP_len p s c k1 k2 k3
 refine PSpec.intro tt_ok mx_ok Tryz.func47 rfl (by decide) ?_; (conv => whnf)
 refine boxP rfl ?_
 conv => whnf
 refine boxP rfl ?_
 conv => whnf
 refine boxP rfl ?_
 conv => whnf
 refine WPc.loopF tt_ok mx_ok (fun k1 : Nat => k1 ≤ p.rules.length) (fun k1 => [(8, .int .i64 (k1 : Int)), (7, .row 1000 (stA p s c k1).length 3)]) (fun k1 => [(1000, rowX (stA p s c k1))]) (fun k1 => p.rules.length - k1) 0 (Nat.zero_le _) ?_; conv => whnf
 refine ⟨Sub.by_ [(1000, .nil 3)] _ 400 rfl (auto_) (auto_), ?_⟩
 rintro k1 hk1
 conv => whnf
 refine cmpI ?_ ?_ <;> (intro g1; conv => whnf)
 ·refine WPc.loopF tt_ok mx_ok (fun k2 : Nat => k2 ≤ c.states.length) (fun k2 => [(9, .int .i64 (k2 : Int)), (7, .row 1000 (stA p s c k1 ++ stI p s c k1 k2).length 3)]) (fun k2 => [(1000, rowX (stA p s c k1 ++ stI p s c k1 k2))]) (fun k2 => c.states.length - k2) 0 (Nat.zero_le _) ?_; conv => whnf
  have e0 : stA p s c k1 ++ stI p s c k1 0 = stA p s c k1 := by simp [stI]
  refine ⟨by rw [e0]; exact sI, ?_⟩
  rintro k2 hk2
  conv => whnf
  refine cmpI ?_ ?_ <;> (intro g2; conv => whnf)
  ·refine dI ?_
   conv => whnf
   refine nI ?_
   conv => whnf
   refine nI ?_
   conv => whnf
   rw [tN, tN]
   refine cmpI ?_ ?_ <;> (intro g3; conv => whnf)
   ·have e2 : stA p s c k1 ++ stI p s c k1 (k2 + 1) = stA p s c k1 ++ stI p s c k1 k2 := by rw [stI_up, stP_none g3, List.append_nil]
    repeat' ((first|refine nI ?_|refine aI ?_|refine tI ?_|refine fI ?_|fail);conv => whnf)
    refine ⟨k2 + 1, ?_, by omega, by dsimp only; omega⟩
    dsimp only
    rw [e2]
    exact sI
   refine WPc.loopF tt_ok mx_ok (fun k3 : Nat => k3 ≤ c.states.length + 1) (fun k3 => [(10, .int .i64 ((k3 : Int) - 1)), (7, .row 1000 (stA p s c k1 ++ stI p s c k1 k2 ++ stP p s c k1 k2 k3).length 3)]) (fun k3 => [(1000, rowX (stA p s c k1 ++ stI p s c k1 k2 ++ stP p s c k1 k2 k3))]) (fun k3 => c.states.length + 1 - k3) 0 (Nat.zero_le _) ?_; conv => whnf
   have e1 : stA p s c k1 ++ stI p s c k1 k2 ++ stP p s c k1 k2 0 = stA p s c k1 ++ stI p s c k1 k2 := by simp [stP]
   refine ⟨by rw [e1]; exact sI, ?_⟩
   rintro k3 hk3
   conv => whnf
   refine cmpI ?_ ?_ <;> (intro g4; conv => whnf)
   ·have hup := stP_up p s c k1 k2 k3
    have hl1 := hbA k1 hk1
    have hl2 := hbI k1 k2 hk2
    have hl3 := hbP k1 k2 k3
    have hll : (stA p s c k1 ++ stI p s c k1 k2 ++ stP p s c k1 k2 k3).length ≤ 1000000 := by simp only [List.length_append]; omega
    refine dC (enabledR p s c ⟨k1, k2, (k3 : Int) - 1⟩ false h) (fun _ => ?_) (fun _ => ?_) <;> (conv => whnf)
    ·rename_i hen
     rw [if_pos hen] at hup
     refine bldI stp0 encX [⟨k1, k2, (k3 : Int) - 1⟩] rfl ?_
     conv => whnf
     refine appI [⟨k1, k2, (k3 : Int) - 1⟩] rfl lI ?_
     conv => whnf
     repeat' ((first|refine nI ?_|refine aI ?_|refine tI ?_|refine fI ?_|fail);conv => whnf)
     have e3 : stA p s c k1 ++ stI p s c k1 k2 ++ stP p s c k1 k2 (k3 + 1) = stA p s c k1 ++ stI p s c k1 k2 ++ stP p s c k1 k2 k3 ++ [⟨k1, k2, (k3 : Int) - 1⟩] := by rw [hup, ← List.append_assoc]
     refine ⟨k3 + 1, ?_, by omega, by dsimp only; omega⟩
     dsimp only
     rw [e3]
     exact Sub.by_ [(1000, .old 57)] _ 400 rfl (auto_) (auto_)
    ·rename_i hen
     rw [if_neg hen, List.append_nil] at hup
     repeat' ((first|refine nI ?_|refine aI ?_|refine tI ?_|refine fI ?_|fail);conv => whnf)
     refine ⟨k3 + 1, ?_, by omega, by dsimp only; omega⟩
     dsimp only
     rw [hup]
     exact sI
   ·have ek : k3 = c.states.length + 1 := by omega
    have e2 : stA p s c k1 ++ stI p s c k1 (k2 + 1) = stA p s c k1 ++ stI p s c k1 k2 ++ stP p s c k1 k2 k3 := by rw [ek, stI_up, List.append_assoc]
    repeat' ((first|refine nI ?_|refine aI ?_|refine tI ?_|refine fI ?_|fail);conv => whnf)
    refine ⟨k2 + 1, ?_, by omega, by dsimp only; omega⟩
    dsimp only
    rw [e2]
    exact sI
  ·have ek : k2 = c.states.length := by omega
   have e2 : stA p s c (k1 + 1) = stA p s c k1 ++ stI p s c k1 k2 := by rw [ek, stA_up]
   repeat' ((first|refine nI ?_|refine aI ?_|refine tI ?_|refine fI ?_|fail);conv => whnf)
   refine ⟨k1 + 1, ?_, by omega, by dsimp only; omega⟩
   dsimp only
   rw [e2]
   exact sI
 ·obtain rfl : k1 = p.rules.length := by omega
  exact ⟨rfl, rfl⟩
theorem sameStepsR (l : List Stp) (hl : l.length ≤ 1000000) : PSpec Tryz.prog 23 [.sl stp0 encX l, .sl stp0 encX l] (fun u => u = .bool true) := by
 refine PSpec.intro tt_ok mx_ok Tryz.func23 rfl (by decide) ?_; (conv => whnf)
 refine fI ?_
 conv => whnf
 refine WPc.loopF tt_ok mx_ok (fun k : Nat => k ≤ l.length) (fun k => [(5, .int .i64 (k : Int))]) (fun _ => []) (fun k => l.length - k) 0 (Nat.zero_le _) ?_; conv => whnf
 refine ⟨sI, ?_⟩
 rintro k hk
 conv => whnf
 refine cmpI ?_ ?_ <;> (intro g1; conv => whnf)
 ·refine dI ?_
  conv => whnf
  refine nI ?_
  conv => whnf
  refine nI ?_
  conv => whnf
  refine cmpF (fun hh => hh rfl) ?_
  conv => whnf
  repeat' ((first|refine nI ?_|refine aI ?_|refine tI ?_|refine fI ?_|fail);conv => whnf)
  exact ⟨k + 1, sI, by omega, by dsimp only; omega⟩
 ·exact ⟨rfl, rfl⟩
end Go.Proofs.YtaeomngmcfdfpaaGreatDoor
