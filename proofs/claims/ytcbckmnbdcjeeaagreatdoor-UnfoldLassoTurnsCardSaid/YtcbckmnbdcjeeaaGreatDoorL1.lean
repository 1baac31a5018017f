import Derived.Test.YtcbckmnbdcjeeaaGreatDoorA1
import Derived.Test.YtcbckmnbdcjeeaaGreatDoorFpBa
import Derived.Test.YtcbckmnbdcjeeaaGreatDoorFpB
set_option linter.unusedVariables false
set_option linter.unusedSimpArgs false

/-
  Lassos, plainly: which lassos are violations, and that a lasso stays one when its loop is gone through once more.
-/
namespace Go.Proofs.YtcbckmnbdcjeeaaGreatDoor
set_option maxRecDepth 100000
set_option maxHeartbeats 16000000

theorem runOk_app {p : Pro} {s : Siz} : ∀ {a b : List Stp} {c : Cfg}, runOk p s c (a ++ b) ↔ runOk p s c a ∧ runOk p s ((trs p c a).getD a.length cfg0) b
  | [], b, c => by simp [runOk, trs, tr]
  | x :: a, b, c => by
    have ih := runOk_app (p := p) (s := s) (a := a) (b := b) (c := apC c (rulX p x) x)
    simp only [List.cons_append, runOk, ih]
    constructor
    · rintro ⟨h1, h2, h3, h4⟩; exact ⟨⟨h1, h2, h3⟩, h4⟩
    · rintro ⟨⟨h1, h2, h3⟩, h4⟩; exact ⟨h1, h2, h3, h4⟩
theorem tr_app {p : Pro} : ∀ (a b : List Stp) (c : Cfg), tr p c (a ++ b) = tr p c a ++ tr p ((trs p c a).getD a.length cfg0) b
  | [], b, c => rfl
  | x :: a, b, c => by
    have ih := tr_app (p := p) a b (apC c (rulX p x) x)
    simp only [List.cons_append, tr, ih]
    rfl
theorem trs_app {p : Pro} (a b : List Stp) (c : Cfg) : trs p c (a ++ b) = trs p c a ++ tr p ((trs p c a).getD a.length cfg0) b := by
  unfold trs; rw [tr_app]; rfl
theorem trs_end {p : Pro} (a b : List Stp) (c : Cfg) : (trs p c (a ++ b)).getD (a ++ b).length cfg0 = (trs p ((trs p c a).getD a.length cfg0) b).getD b.length cfg0 := by
  induction a generalizing c with
  | nil => rfl
  | cons x a ih => exact ih (apC c (rulX p x) x)
theorem trs_drop {p : Pro} (a b : List Stp) (c : Cfg) : (trs p c (a ++ b)).drop a.length = trs p ((trs p c a).getD a.length cfg0) b := by
  induction a generalizing c with
  | nil => rfl
  | cons x a ih => exact ih (apC c (rulX p x) x)
structure Las where
  start : Cfg
  pre : List Stp
  loop : List Stp
def encLs (l : Las) : List AV := encC l.start ++ [.sl stp0 encX l.pre, .sl stp0 encX l.loop]
def midL (p : Pro) (l : Las) : Cfg := (trs p l.start l.pre).getD l.pre.length cfg0
/-- a pair is taken in a loop, or not forced in one of its configurations -/
def freeB (p : Pro) (s : Siz) (b : List Cfg) (loop : List Stp) (r i : Int) : Prop := (∃ x ∈ loop, x.rule = r ∧ x.process = i) ∨ ∃ d ∈ b, ¬ fcB p s d r i
structure LoopOk (p : Pro) (q : Prp) (s : Siz) (R : Cfg → Prop) (m : Cfg) (loop : List Stp) : Prop where
  run : runOk p s m loop
  back : (trs p m loop).getD loop.length cfg0 = m
  not : ∀ d ∈ trs p m loop, ¬ R d
  free : ∀ r i : Nat, r < p.rules.length → (i : Int) < s.n - s.f → freeB p s (trs p m loop) loop r i
theorem mem_trs_head {p : Pro} {c : Cfg} {l : List Stp} : c ∈ trs p c l := List.mem_cons_self
theorem LoopOk.twice {p : Pro} {q : Prp} {s : Siz} {R : Cfg → Prop} {m : Cfg} {loop : List Stp} (h : LoopOk p q s R m loop) : LoopOk p q s R m (loop ++ loop) := by
  have e : trs p m (loop ++ loop) = trs p m loop ++ tr p m loop := by rw [trs_app, h.back]
  refine ⟨runOk_app.2 ⟨h.run, by rw [h.back]; exact h.run⟩, by rw [trs_end, h.back, h.back], fun d hd => ?_, fun r i hr hi => ?_⟩
  · rw [e, List.mem_append] at hd
    rcases hd with hd | hd
    · exact h.not d hd
    · exact h.not d (List.mem_cons_of_mem _ hd)
  · rcases h.free r i hr hi with ⟨x, hx, hh⟩ | ⟨d, hd, hh⟩
    · exact .inl ⟨x, List.mem_append_left _ hx, hh⟩
    · exact .inr ⟨d, by rw [e]; exact List.mem_append_left _ hd, hh⟩
def lasB (p : Pro) (q : Prp) (s : Siz) (R : Cfg → Prop) (l : Las) : Prop := sizQ p q s = 0 ∧ q.kind = 2 ∧ isI p q s l.start ∧ runOk p s l.start l.pre ∧ (∀ d ∈ trs p l.start l.pre, ¬ R d) ∧ LoopOk p q s R (midL p l) l.loop
theorem lasB_longer {p : Pro} {q : Prp} {s : Siz} {R : Cfg → Prop} {l : Las} (h : lasB p q s R l) : lasB p q s R ⟨l.start, l.pre ++ l.loop, l.loop⟩ := by
  obtain ⟨h1, h2, h3, h4, h5, h6⟩ := h
  have hm : midL p ⟨l.start, l.pre ++ l.loop, l.loop⟩ = midL p l := by
    show (trs p l.start (l.pre ++ l.loop)).getD (l.pre ++ l.loop).length cfg0 = _
    rw [trs_end]
    exact h6.back
  refine ⟨h1, h2, h3, runOk_app.2 ⟨h4, h6.run⟩, fun d hd => ?_, by rw [hm]; exact h6⟩
  have hd' : d ∈ trs p l.start (l.pre ++ l.loop) := hd
  rw [trs_app, List.mem_append] at hd'
  rcases hd' with hd' | hd'
  · exact h5 d hd'
  · exact h6.not d (List.mem_cons_of_mem _ hd')
theorem lasB_twice {p : Pro} {q : Prp} {s : Siz} {R : Cfg → Prop} {l : Las} (h : lasB p q s R l) : lasB p q s R ⟨l.start, l.pre, l.loop ++ l.loop⟩ := by
  obtain ⟨h1, h2, h3, h4, h5, h6⟩ := h
  exact ⟨h1, h2, h3, h4, h5, h6.twice⟩
end Go.Proofs.YtcbckmnbdcjeeaaGreatDoor


/-
  The pairs of a family and a size; a loop in which no pair is starved, by the program (a map of the pairs that are taken).
-/
namespace Go.Proofs.YtcbckmnbdcjeeaaGreatDoor
set_option maxRecDepth 100000
set_option maxHeartbeats 16000000

def prI (r k : Nat) : List (Int × Int) := (List.range k).map fun i : Nat => ((r : Int), (i : Int))
def prA (m k : Nat) : List (Int × Int) := (List.range k).flatMap fun r => prI r m
theorem prI_up (r k : Nat) : prI r (k + 1) = prI r k ++ [((r : Int), (k : Int))] := by simp [prI, List.range_succ]
theorem prA_up (m k : Nat) : prA m (k + 1) = prA m k ++ prI k m := by simp [prA, List.range_succ, List.flatMap_append]
theorem prI_len (r k : Nat) : (prI r k).length = k := by simp [prI]
theorem prA_len (m : Nat) : ∀ k, (prA m k).length = k * m
  | 0 => by simp [prA]
  | k + 1 => by rw [prA_up, List.length_append, prI_len, prA_len m k, Nat.add_mul, Nat.one_mul]
theorem prA_mem {m k : Nat} {a : Int × Int} : a ∈ prA m k ↔ ∃ r i : Nat, r < k ∧ i < m ∧ a = ((r : Int), (i : Int)) := by
  simp only [prA, prI, List.mem_flatMap, List.mem_map, List.mem_range]
  constructor
  · rintro ⟨r, hr, i, hi, rfl⟩; exact ⟨r, i, hr, hi, rfl⟩
  · rintro ⟨r, i, hr, hi, rfl⟩; exact ⟨r, hr, i, hi, rfl⟩
def encK (k : Int × Int) : List AV := [.int .i64 k.1, .int .i64 k.2]
def rowK (l : List (Int × Int)) : Blk := .row 123 (0, 0) encK l
theorem pairsF (p : Pro) (s : Siz) (hp : ¬ bigP p) (hs : (1 ≤ s.n ∧ s.n ≤ 8) ∧ (0 ≤ s.f ∧ s.f ≤ s.n)) : PSpec Tryz.prog 86 [.agg (encP p), .agg (encZ s)] (fun u => u = .sl (0, 0) encK (prA (s.n - s.f).toNat p.rules.length)) := by
  have hle := bigP_le hp
  have hm : (s.n - s.f).toNat ≤ 8 := by omega
  have hA := prA_len (s.n - s.f).toNat
  refine PSpec.intro tt_ok mx_ok Tryz.func86 rfl (by decide) ?_; (conv => whnf)
  refine boxP rfl ?_
  conv => whnf
  refine boxP rfl ?_
  conv => whnf
  refine WPc.loopF tt_ok mx_ok (fun k1 : Nat => k1 ≤ p.rules.length) (fun k1 => [(11, .int .i64 (k1 : Int)), (5, .row 1000 (prA (s.n - s.f).toNat k1).length 2)]) (fun k1 => [(1000, rowK (prA (s.n - s.f).toNat k1))]) (fun k1 => p.rules.length - k1) 0 (Nat.zero_le _) ?_; conv => whnf
  refine ⟨Sub.by_ [(1000, .nil 2)] _ 400 rfl (auto_) (auto_), ?_⟩
  rintro k1 hk1
  conv => whnf
  refine cmpI (fun g1 => ?_) (fun g1 => ?_) <;> conv => whnf
  · refine arI trivial (by omega) ?_
    conv => whnf
    have hk8 : (prA (s.n - s.f).toNat k1).length ≤ 8000 := by
      rw [hA]
      have := Nat.mul_le_mul (show k1 ≤ 1000 by omega) hm
      omega
    have e0 : prA (s.n - s.f).toNat k1 ++ prI k1 0 = prA (s.n - s.f).toNat k1 := by simp [prI]
    refine WPc.loopF tt_ok mx_ok (fun k2 : Nat => k2 ≤ (s.n - s.f).toNat) (fun k2 => [(19, .int .i64 (k2 : Int)), (5, .row 1000 (prA (s.n - s.f).toNat k1 ++ prI k1 k2).length 2)]) (fun k2 => [(1000, rowK (prA (s.n - s.f).toNat k1 ++ prI k1 k2))]) (fun k2 => (s.n - s.f).toNat - k2) 0 (Nat.zero_le _) ?_; conv => whnf
    refine ⟨by rw [e0]; exact (Sub.id_ 400 rfl auto_ auto_), ?_⟩
    rintro k2 hk2
    conv => whnf
    refine cmpI (fun g2 => ?_) (fun g2 => ?_) <;> conv => whnf
    · have hll : (prA (s.n - s.f).toNat k1 ++ prI k1 k2).length ≤ 1000000 := by rw [List.length_append, prI_len]; omega
      refine bldI (0, 0) encK [((k1 : Int), (k2 : Int))] rfl ?_
      conv => whnf
      refine appI [((k1 : Int), (k2 : Int))] rfl (by simp only [List.length_cons, List.length_nil]; omega) ?_
      conv => whnf
      repeat' (first
          | (refine needI (by first | omega | (dsimp only; omega)) ?_; conv => whnf)
          | (refine arI trivial (by omega) ?_; conv => whnf)
          | (refine cmpT (by omega) ?_; conv => whnf)
          | (refine cmpF (by omega) ?_; conv => whnf)
          | fail)
      have e3 : prA (s.n - s.f).toNat k1 ++ prI k1 (k2 + 1) = prA (s.n - s.f).toNat k1 ++ prI k1 k2 ++ [((k1 : Int), (k2 : Int))] := by rw [prI_up, ← List.append_assoc]
      refine ⟨k2 + 1, ?_, by omega, by dsimp only; omega⟩
      dsimp only
      rw [e3]
      exact Sub.by_ [(1000, .old 27)] _ 400 rfl (auto_) (auto_)
    · have ek : k2 = (s.n - s.f).toNat := by omega
      have e2 : prA (s.n - s.f).toNat (k1 + 1) = prA (s.n - s.f).toNat k1 ++ prI k1 k2 := by rw [ek, prA_up]
      repeat' (first
          | (refine needI (by first | omega | (dsimp only; omega)) ?_; conv => whnf)
          | (refine arI trivial (by omega) ?_; conv => whnf)
          | (refine cmpT (by omega) ?_; conv => whnf)
          | (refine cmpF (by omega) ?_; conv => whnf)
          | fail)
      refine ⟨k1 + 1, ?_, by omega, by dsimp only; omega⟩
      dsimp only
      rw [e2]
      exact (Sub.id_ 400 rfl auto_ auto_)
  · obtain rfl : k1 = p.rules.length := by omega
    exact ⟨rfl, rfl⟩

/-! ### pairs as keys -/
def kyP (k : Int × Int) : Value := .agg #[.int .i64 k.1, .int .i64 k.2]
theorem keyPair : KeyOk Tryz.prog 123 kyP := by
  have ht : Tryz.prog.underlying 3 = some (.int .i64) := Tryz.underlying3
  have hag : ∀ w, (isAgg 3).run Tryz.prog w = .ok false w := fun w => by simp [isAgg, run_underlying ht]
  have hag2 : ∀ w, (isAgg 123).run Tryz.prog w = .ok true w := fun w => by simp [isAgg, run_underlying Tryz.underlying123]
  refine KeyOk.ask Tryz.underlying123 ?_ ?_ ?_ ?_ ?_
  · rintro ⟨a, b⟩ ⟨c, d⟩ h
    simpa [kyP] using h
  · rintro e ⟨a, b⟩ w
    have h4 : ∀ n w, (Instr.checkKey e (n + 2) 123 (kyP (a, b))).run Tryz.prog w = .ok () w := fun n w => by
      simp [Instr.checkKey, run_underlying Tryz.underlying123, run_underlying ht, kyP, part, hag]
    exact h4 9998 w
  · intro a b; rfl
  · rintro ⟨a, b⟩ ⟨c, d⟩ w
    obtain ⟨p, q, e1, e2, e3⟩ := eqTy_ok (P := Tryz.prog) w 9 123 2 (by decide +kernel) 9991 #[.int .i64 a, .int .i64 b] #[.int .i64 c, .int .i64 d] 0 [a, b] [c, d] rfl rfl
      (fun j x hj => by rw [Nat.zero_add]; match j, hj with | 0, hj => cases hj; rfl | 1, hj => cases hj; rfl) (fun j x hj => by rw [Nat.zero_add]; match j, hj with | 0, hj => cases hj; rfl | 1, hj => cases hj; rfl)
    have hsz : (Go.sizeOf 123).run Tryz.prog w = .ok 2 w := by
      obtain ⟨i, hi⟩ : ∃ i, tt.find 123 = some i := ⟨_, rfl⟩
      have := TOk.size tt_ok hi w
      cases hi
      exact this
    simp [part, hag2, hsz] at e1 e2
    subst e1; subst e2
    refine ⟨_, e3, ?_⟩
    simp [kyP]
  · rintro ⟨a, b⟩
    have h4 : ∀ n, Instr.sameBits (n + 1) (kyP (a, b)) (kyP (a, b)) = true := fun n => by simp [kyP, Instr.sameBits]
    exact h4 9999

/-- a map that has just the pairs of some steps -/
structure TkI (l : List Stp) (f : Int × Int → Option Bool) : Prop where
  yes : ∀ a b, f a = some b → b = true ∧ ∃ x ∈ l, (x.rule, x.process) = a
  no : ∀ a, f a = none → ∀ x ∈ l, (x.rule, x.process) ≠ a
theorem TkI.nil : TkI [] (fun _ => none) := ⟨fun _ _ h => (by cases h), fun _ _ x hx => absurd hx List.not_mem_nil⟩
theorem TkI.up {l : List Stp} {k : Nat} {f : Int × Int → Option Bool} (h : TkI (l.take k) f) (hk : k < l.length) : TkI (l.take (k + 1)) (updF f ((l.getD k stp0).rule, (l.getD k stp0).process) true) := by
  have e : l.getD k stp0 = l[k] := by rw [List.getD_eq_getElem?_getD, List.getElem?_eq_getElem hk]; rfl
  rw [List.take_succ_eq_append_getElem hk, e]
  refine ⟨fun a b hb => ?_, fun a ha x hx => ?_⟩
  · by_cases c : a = (l[k].rule, l[k].process)
    · subst c
      rw [updF_same] at hb
      cases hb
      exact ⟨rfl, l[k], List.mem_append_right _ List.mem_cons_self, rfl⟩
    · rw [updF_ne _ _ c] at hb
      obtain ⟨h1, x, hx, hh⟩ := h.yes a b hb
      exact ⟨h1, x, List.mem_append_left _ hx, hh⟩
  · have c : a ≠ (l[k].rule, l[k].process) := fun c => by subst c; rw [updF_same] at ha; cases ha
    rw [updF_ne _ _ c] at ha
    rcases List.mem_append.1 hx with hx | hx
    · exact h.no a ha x hx
    · rw [List.mem_singleton] at hx; subst hx; exact fun e => c e.symm
def fairB (p : Pro) (s : Siz) (b : List Cfg) (loop : List Stp) : Prop := ∀ r i : Nat, r < p.rules.length → (i : Int) < s.n - s.f → freeB p s b loop r i
noncomputable instance decFair (p : Pro) (s : Siz) (b : List Cfg) (loop : List Stp) : Decidable (fairB p s b loop) := Classical.propDecidable _
theorem fairB_all {p : Pro} {s : Siz} {b : List Cfg} {loop : List Stp} (h : ∀ a ∈ prA (s.n - s.f).toNat p.rules.length, freeB p s b loop a.1 a.2) : fairB p s b loop :=
  fun r i hr hi => h ((r : Int), (i : Int)) (prA_mem.2 ⟨r, i, hr, by omega, rfl⟩)
theorem fairB_at {p : Pro} {s : Siz} {b : List Cfg} {loop : List Stp} (h : fairB p s b loop) {a : Int × Int} (ha : a ∈ prA (s.n - s.f).toNat p.rules.length) : freeB p s b loop a.1 a.2 := by
  obtain ⟨r, i, hr, hi, rfl⟩ := prA_mem.1 ha
  exact h r i hr (by omega)
theorem getD_memA {α : Type} (d : α) {l : List α} {k : Nat} (h : k < l.length) : l.getD k d ∈ l := by
  rw [List.getD_eq_getElem?_getD, List.getElem?_eq_getElem h]; exact List.getElem_mem h
theorem mem_getDA {α : Type} (d : α) {l : List α} {a : α} (h : a ∈ l) : ∃ k, k < l.length ∧ l.getD k d = a := by
  obtain ⟨k, hk, rfl⟩ := List.getElem_of_mem h
  exact ⟨k, hk, by rw [List.getD_eq_getElem?_getD, List.getElem?_eq_getElem hk]; rfl⟩
theorem fairLoopF (p : Pro) (s : Siz) (b : List Cfg) (loop : List Stp) (hp : ¬ bigP p) (hs : (1 ≤ s.n ∧ s.n ≤ 8) ∧ (0 ≤ s.f ∧ s.f ≤ s.n)) (hb : ∀ k, k < b.length → Rdy p s (b.getD k cfg0)) (hbl : b.length ≤ 100000) (hll : loop.length ≤ 100000) :
    PSpec Tryz.prog 44 [.agg (encP p), .agg (encZ s), .sl cfg0 encC b, .sl stp0 encX loop] (fun u => u = .bool (decide (fairB p s b loop))) := by
  have hle := bigP_le hp
  have hal : (prA (s.n - s.f).toNat p.rules.length).length ≤ 8000 := by
    rw [prA_len]
    have := Nat.mul_le_mul (show p.rules.length ≤ 1000 by omega) (show (s.n - s.f).toNat ≤ 8 by omega)
    omega
  refine PSpec.intro tt_ok mx_ok Tryz.func44 rfl (by decide) ?_; (conv => whnf)
  refine boxP rfl ?_
  conv => whnf
  refine boxP rfl ?_
  conv => whnf
  refine mapI kyP Value.bool ?_
  conv => whnf
  refine WPc.loopF tt_ok mx_ok (fun x : Nat × (Int × Int → Option Bool) => x.1 ≤ loop.length ∧ TkI (loop.take x.1) x.2) (fun x => [(20, .int .i64 (x.1 : Int))]) (fun x => [(17, .map kyP Value.bool x.2)]) (fun x => loop.length - x.1) (0, fun _ => none) ⟨Nat.zero_le _, TkI.nil⟩ ?_; conv => whnf
  refine ⟨(Sub.id_ 400 rfl auto_ auto_), ?_⟩
  rintro ⟨k, f⟩ ⟨hk, hf⟩
  dsimp only at hk hf
  conv => whnf
  refine cmpI (fun g1 => ?_) (fun g1 => ?_) <;> conv => whnf
  · refine needI (by omega) ?_
    conv => whnf
    rw [Int.toNat_natCast]
    refine updI keyPair ((loop.getD k stp0).rule, (loop.getD k stp0).process) true rfl rfl ?_
    conv => whnf
    repeat' (first
        | (refine needI (by first | omega | (dsimp only; omega)) ?_; conv => whnf)
        | (refine arI trivial (by omega) ?_; conv => whnf)
        | (refine cmpT (by omega) ?_; conv => whnf)
        | (refine cmpF (by omega) ?_; conv => whnf)
        | fail)
    exact ⟨(k + 1, updF f ((loop.getD k stp0).rule, (loop.getD k stp0).process) true), (Sub.id_ 400 rfl auto_ auto_), ⟨by dsimp only; omega, hf.up (by omega)⟩, by dsimp only; omega⟩
  have hk' : k = loop.length := by omega
  rw [hk', List.take_length] at hf
  clear hk hk' g1
  (refine Spec.of_pure (n := 5) (pairsF p s hp hs) rfl ?_; rintro _ rfl; conv => whnf)
  have hmem : ∀ j, j < (prA (s.n - s.f).toNat p.rules.length).length → (fairB p s b loop → freeB p s b loop ((prA (s.n - s.f).toNat p.rules.length).getD j (0, 0)).1 ((prA (s.n - s.f).toNat p.rules.length).getD j (0, 0)).2) := fun j hj h => fairB_at h (getD_memA (0, 0) hj)
  have hall : (∀ j, j < (prA (s.n - s.f).toNat p.rules.length).length → freeB p s b loop ((prA (s.n - s.f).toNat p.rules.length).getD j (0, 0)).1 ((prA (s.n - s.f).toNat p.rules.length).getD j (0, 0)).2) → fairB p s b loop := fun h => fairB_all fun a ha => by
    obtain ⟨j, hj, rfl⟩ := mem_getDA (0, 0) ha
    exact h j hj
  generalize prA (s.n - s.f).toNat p.rules.length = A at hal hmem hall
  refine WPc.loopF tt_ok mx_ok (fun j : Nat => j ≤ A.length ∧ ∀ i, i < j → freeB p s b loop (A.getD i (0, 0)).1 (A.getD i (0, 0)).2) (fun j => [(35, .int .i64 (j : Int))]) (fun _ => [(17, .map kyP Value.bool f)]) (fun j => A.length - j) 0 ⟨Nat.zero_le _, fun i hi => by omega⟩ ?_; conv => whnf
  refine ⟨(Sub.id_ 400 rfl auto_ auto_), ?_⟩
  rintro j ⟨hj, ha⟩
  conv => whnf
  refine cmpI (fun g2 => ?_) (fun g2 => ?_) <;> conv => whnf
  case refine_2 => exact ⟨dec_t (hall fun i hi => ha i (by omega)), rfl⟩
  have hmj := hmem j (by omega)
  refine needI (by omega) ?_
  conv => whnf
  rw [Int.toNat_natCast]
  have hnx : freeB p s b loop (A.getD j (0, 0)).1 (A.getD j (0, 0)).2 → ∀ i, i < j + 1 → freeB p s b loop (A.getD i (0, 0)).1 (A.getD i (0, 0)).2 := fun h i hi => by
    by_cases e : i = j
    · subst e; exact h
    · exact ha i (by omega)
  generalize A.getD j (0, 0) = a at hmj hnx
  refine lookI keyPair a rfl (fun t ht => ?_) (fun hn => ?_)
  · obtain ⟨rfl, x, hx, hxa⟩ := hf.yes a t ht
    subst hxa
    conv => whnf
    repeat' (first
        | (refine needI (by first | omega | (dsimp only; omega)) ?_; conv => whnf)
        | (refine arI trivial (by omega) ?_; conv => whnf)
        | (refine cmpT (by omega) ?_; conv => whnf)
        | (refine cmpF (by omega) ?_; conv => whnf)
        | fail)
    exact ⟨j + 1, (Sub.id_ 400 rfl auto_ auto_), ⟨by omega, hnx (.inl ⟨x, hx, rfl, rfl⟩)⟩, by dsimp only; omega⟩
  have hnt : ¬ ∃ x ∈ loop, x.rule = a.1 ∧ x.process = a.2 := by
    rintro ⟨x, hx, h1, h2⟩
    exact hf.no a hn x hx (Prod.ext h1 h2)
  conv => whnf
  refine WPc.loopF tt_ok mx_ok (fun y : Nat × Bool => y.1 ≤ b.length ∧ (y.2 = true ↔ ∀ i, i < y.1 → fcB p s (b.getD i cfg0) a.1 a.2)) (fun y => [(44, .int .i64 (y.1 : Int)), (14, .bool y.2)]) (fun _ => [(13, .box 123 (encK a)), (17, .map kyP Value.bool f)]) (fun y => b.length - y.1) (0, true) ⟨Nat.zero_le _, by simp⟩ ?_; conv => whnf
  refine ⟨(Sub.id_ 400 rfl auto_ auto_), ?_⟩
  rintro ⟨k, t⟩ ⟨hk, hy⟩
  dsimp only at hk hy
  conv => whnf
  refine cmpI (fun g3 => ?_) (fun g3 => ?_) <;> conv => whnf
  · refine needI (by omega) ?_
    conv => whnf
    rw [Int.toNat_natCast]
    have hR := hb k (by omega)
    generalize hd : b.getD k cfg0 = d at hR ⊢
    cases t with
    | false =>
      refine drawI (by decide +kernel) ?_
      conv => whnf
      repeat' (first
          | (refine needI (by first | omega | (dsimp only; omega)) ?_; conv => whnf)
          | (refine arI trivial (by omega) ?_; conv => whnf)
          | (refine cmpT (by omega) ?_; conv => whnf)
          | (refine cmpF (by omega) ?_; conv => whnf)
          | fail)
      exact ⟨(k + 1, false), (Sub.id_ 400 rfl auto_ auto_), ⟨by dsimp only; omega, ⟨fun h => (by cases h), fun h => hy.2 fun i hi => h i (Nat.lt_succ_of_lt hi)⟩⟩, by dsimp only; omega⟩
    | true =>
      refine drawI (by decide +kernel) ?_
      conv => whnf
      (refine callPI 5 (seeF p s d hR.wide) rfl ⟨_, rfl⟩ ?_; rintro _ rfl; conv => whnf)
      refine callD 5 (forcedV p s d a.1 a.2 hR) rfl (fun _ => ?_) (fun _ => ?_) <;> (conv => whnf)
      · rename_i h4
        repeat' (first
            | (refine needI (by first | omega | (dsimp only; omega)) ?_; conv => whnf)
            | (refine arI trivial (by omega) ?_; conv => whnf)
            | (refine cmpT (by omega) ?_; conv => whnf)
            | (refine cmpF (by omega) ?_; conv => whnf)
            | fail)
        exact ⟨(k + 1, true), (Sub.id_ 400 rfl auto_ auto_), ⟨by dsimp only; omega, ⟨fun _ i hi => by
          by_cases e : i = k
          · subst e; rw [hd]; exact h4
          · exact hy.1 rfl i (by omega), fun _ => rfl⟩⟩, by dsimp only; omega⟩
      · rename_i h4
        repeat' (first
            | (refine needI (by first | omega | (dsimp only; omega)) ?_; conv => whnf)
            | (refine arI trivial (by omega) ?_; conv => whnf)
            | (refine cmpT (by omega) ?_; conv => whnf)
            | (refine cmpF (by omega) ?_; conv => whnf)
            | fail)
        exact ⟨(k + 1, false), (Sub.id_ 400 rfl auto_ auto_), ⟨by dsimp only; omega, ⟨fun h => (by cases h), fun h => absurd (by have := h k (Nat.lt_succ_self k); rwa [hd] at this) h4⟩⟩, by dsimp only; omega⟩
  · have hkb : k = b.length := by omega
    subst hkb
    cases t with
    | true =>
      conv => whnf
      refine ⟨dec_f fun h => ?_, rfl⟩
      rcases hmj h with hx | ⟨d, hdb, hnf⟩
      · exact hnt hx
      · obtain ⟨i, hi, rfl⟩ := mem_getDA cfg0 hdb
        exact hnf (hy.1 rfl i hi)
    | false =>
      conv => whnf
      repeat' (first
          | (refine needI (by first | omega | (dsimp only; omega)) ?_; conv => whnf)
          | (refine arI trivial (by omega) ?_; conv => whnf)
          | (refine cmpT (by omega) ?_; conv => whnf)
          | (refine cmpF (by omega) ?_; conv => whnf)
          | fail)
      have hfree : ∃ d ∈ b, ¬ fcB p s d a.1 a.2 := Classical.byContradiction fun hno => by
        have := hy.2 fun i hi => Classical.byContradiction fun hnf => hno ⟨_, getD_memA cfg0 hi, hnf⟩
        cases this
      exact ⟨j + 1, (Sub.id_ 400 rfl auto_ auto_), ⟨by omega, hnx (.inr hfree)⟩, by dsimp only; omega⟩
end Go.Proofs.YtcbckmnbdcjeeaaGreatDoor


/-
  Lassos, by the program and by the document's answer; the laws UnfoldLassos and UnfoldLassoTurns.
-/
namespace Go.Proofs.YtcbckmnbdcjeeaaGreatDoor
set_option maxRecDepth 100000
set_option maxHeartbeats 16000000

theorem cmpC_same {a b : Cfg} (h : cmpC a b = 0) : a = b := by
  have hz := orL_zero h
  have e1 := cmpL_eq (hz (cmpL a.shape b.shape) (by simp))
  have e2 := cmpL_eq (hz (cmpL a.states b.states) (by simp))
  have e3 := cmpL_eq (hz (cmpL a.sent b.sent) (by simp))
  have e4 := cmpL_eq (hz (cmpL a.faulty b.faulty) (by simp))
  have e5 := hz (cmpZ a.correct b.correct) (by simp)
  have e6 := hz (cmpZ a.value b.value) (by simp)
  have e5' : a.correct = b.correct := by unfold cmpZ at e5; (repeat' split at e5) <;> omega
  have e6' : a.value = b.value := by unfold cmpZ at e6; (repeat' split at e6) <;> omega
  obtain ⟨a1, a2, a3, a4, a5, a6⟩ := a
  obtain ⟨b1, b2, b3, b4, b5, b6⟩ := b
  simp only at e1 e2 e3 e4 e5' e6'
  rw [e1, e2, e3, e4, e5', e6']
noncomputable instance decLas (p : Pro) (q : Prp) (s : Siz) (l : Las) : Decidable (lasB p q s (rchB q) l) := Classical.propDecidable _
theorem lasB_iff {p : Pro} {q : Prp} {s : Siz} {R : Cfg → Prop} {l : Las} (h1 : sizQ p q s = 0) (h2 : q.kind = 2) (h3 : isI p q s l.start) (h4 : runOk p s l.start (l.pre ++ l.loop)) :
    lasB p q s R l ↔ ((trs p (midL p l) l.loop).getD l.loop.length cfg0 = midL p l ∧ (∀ d ∈ trs p l.start (l.pre ++ l.loop), ¬ R d) ∧ fairB p s (trs p (midL p l) l.loop) l.loop) := by
  have h5 := runOk_app.1 h4
  constructor
  · rintro ⟨_, _, _, _, a, b⟩
    refine ⟨b.back, fun d hd => ?_, b.free⟩
    rw [trs_app, List.mem_append] at hd
    rcases hd with hd | hd
    · exact a d hd
    · exact b.not d (List.mem_cons_of_mem _ hd)
  · rintro ⟨a, b, c⟩
    refine ⟨h1, h2, h3, h5.1, fun d hd => b d (by rw [trs_app]; exact List.mem_append_left _ hd), ⟨h5.2, a, fun d hd => ?_, c⟩⟩
    rcases List.mem_cons.1 hd with rfl | hd
    · refine b _ ?_
      rw [trs_app]
      refine List.mem_append_left _ (getD_memA cfg0 ?_)
      rw [trs_len]; omega
    · exact b d (by rw [trs_app]; exact List.mem_append_right _ hd)
theorem IsLassoF (p : Pro) (q : Prp) (s : Siz) (l : Las) (hp : ¬ bigP p) (hq : ¬ bigQ q) (hw : wideB l.start = false) (hl1 : l.pre.length ≤ 400) (hl2 : l.loop.length ≤ 400) : PSpec Tryz.prog 21 [.agg (encP p), .agg (encQ q), .agg (encZ s), .agg (encLs l)] (fun u => u = .bool (decide (lasB p q s (rchB q) l))) := by
  refine PSpec.intro tt_ok mx_ok Tryz.func21 rfl (by decide) ?_; (conv => whnf)
  refine boxP rfl ?_
  conv => whnf
  refine boxP rfl ?_
  conv => whnf
  refine boxP rfl ?_
  conv => whnf
  refine boxP rfl ?_
  conv => whnf
  (refine Spec.of_pure (n := 5) (checkAllF p q s hp hq) rfl ?_; rintro _ rfl; conv => whnf)
  refine cmpI (fun h1 => ?_) (fun h1 => ?_) <;> conv => whnf
  · exact ⟨dec_f (fun h => h1 h.1), rfl⟩
  refine cmpI (fun h2 => ?_) (fun h2 => ?_) <;> conv => whnf
  · exact ⟨dec_f (fun h => h2 h.2.1), rfl⟩
  have h1' : sizQ p q s = 0 := by omega
  have h2' : q.kind = 2 := by omega
  have hz := sizQ_ok h1'
  refine Spec.dcall (n := 5) (isInitialF p q s l.start hp hq hw hz.1 hz.2) rfl (fun _ => ?_) (fun _ => ?_) <;> (conv => whnf)
  case refine_2 =>
    rename_i h3
    exact ⟨dec_f (fun h => h3 h.2.2.1), rfl⟩
  rename_i h3
  have hR := rdy_of hp hw hz.2 h3.1
  have hA := replayF p s l.start (l.pre ++ l.loop) hR (by rw [List.length_append]; omega)
  refine drawF (by decide +kernel) ?_
  conv => whnf
  refine needI (by dsimp only; omega) ?_
  conv => whnf
  refine appI _ rfl (by dsimp only; omega) ?_
  conv => whnf
  refine Spec.hand 39 rfl ?_
  by_cases h4 : runOk p s l.start (l.pre ++ l.loop)
  case neg =>
    obtain ⟨e, he, hr⟩ := rp_no (acc := [l.start]) h4
    rw [hr] at hA
    (refine Spec.of_pure (n := 5) (hA) rfl ?_; rintro _ rfl; conv => whnf)
    refine cmpT he ?_
    conv => whnf
    exact ⟨dec_f (fun h => h4 (runOk_app.2 ⟨h.2.2.2.1, h.2.2.2.2.2.run⟩)), rfl⟩
  have hI := lasB_iff (R := rchB q) h1' h2' h3 h4
  rw [rp_ok h4] at hA
  have hA' : PSpec Tryz.prog 43 [.agg (encP p), .agg (encZ s), .agg (encC l.start), .sl stp0 encX (l.pre ++ l.loop)] (fun u => u = rpA (trs p l.start (l.pre ++ l.loop)) 0) := hA
  have hlen := trs_len p l.start (l.pre ++ l.loop)
  have hrdy := trs_rdy hR h4
  have hdrop : (trs p l.start (l.pre ++ l.loop)).drop l.pre.length = trs p (midL p l) l.loop := trs_drop l.pre l.loop l.start
  have hlen2 := trs_len p (midL p l) l.loop
  have hall : (∀ d ∈ trs p l.start (l.pre ++ l.loop), ¬ rchB q d) ↔ ∀ k, k < (trs p l.start (l.pre ++ l.loop)).length → ¬ rchB q ((trs p l.start (l.pre ++ l.loop)).getD k cfg0) := by
    constructor
    · exact fun h k hk => h _ (getD_memA cfg0 hk)
    · intro h d hd
      obtain ⟨k, hk, rfl⟩ := mem_getDA cfg0 hd
      exact h k hk
  have hrdy2 : ∀ k, k < (trs p (midL p l) l.loop).length → Rdy p s ((trs p (midL p l) l.loop).getD k cfg0) := by
    intro k hk
    rw [← hdrop, List.getD_eq_getElem?_getD, List.getElem?_drop, ← List.getD_eq_getElem?_getD]
    refine hrdy (l.pre.length + k) ?_
    rw [List.length_append]; omega
  have hmid : (trs p (midL p l) l.loop).getD 0 cfg0 = midL p l := rfl
  rw [List.length_append] at hlen
  rw [List.length_append] at hrdy
  generalize trs p l.start (l.pre ++ l.loop) = A at hA' hlen hrdy hdrop hall hI
  generalize trs p (midL p l) l.loop = B at hdrop hlen2 hrdy2 hmid hI
  (refine Spec.of_pure (n := 5) (hA') rfl ?_; rintro _ rfl; conv => whnf)
  refine cmpF (by omega) ?_
  conv => whnf
  refine needI (by omega) ?_
  rw [Int.toNat_natCast, hdrop]
  conv => whnf
  refine drawI (by decide +kernel) ?_
  conv => whnf
  refine needI (by omega) ?_
  conv => whnf
  refine arI trivial (by omega) ?_
  conv => whnf
  refine needI (by omega) ?_
  conv => whnf
  have hw0 := (hrdy2 0 (by omega)).wide
  rw [show ((B.length : Int) - 1).toNat = l.loop.length by omega]
  (refine callPI 5 (compareC (B.getD 0 cfg0) (B.getD l.loop.length cfg0) hw0) rfl ⟨_, rfl⟩ ?_; rintro _ rfl; conv => whnf)
  refine cmpI (fun h5 => ?_) (fun h5 => ?_) <;> conv => whnf
  · exact ⟨dec_f (fun h => h5 (by rw [(hI.1 h).1, hmid, cmpC_self])), rfl⟩
  have h5' : B.getD l.loop.length cfg0 = midL p l := by rw [← hmid]; exact (cmpC_same (by omega)).symm
  refine WPc.loopF tt_ok mx_ok (fun k : Nat => k ≤ A.length ∧ ∀ j, j < k → ¬ rchB q (A.getD j cfg0)) (fun k => [(69, .int .i64 (k : Int)), (9, .top), (36, .top), (39, .top), (45, .top)]) (fun _ => []) (fun k => A.length - k) 0 ⟨by omega, fun j hj => by omega⟩ ?_; conv => whnf
  refine ⟨(Sub.id_ 400 rfl auto_ auto_), ?_⟩
  rintro k ⟨hk, ha⟩
  conv => whnf
  refine cmpI (fun g1 => ?_) (fun g1 => ?_) <;> conv => whnf
  · have hRk := hrdy k (by omega)
    refine needI (by omega) ?_
    conv => whnf
    rw [Int.toNat_natCast]
    refine Spec.dcall (n := 5) (reachedF q (A.getD k cfg0) hq hRk.wide hRk.plain.2) rfl (fun _ => ?_) (fun _ => ?_) <;> (conv => whnf)
    · rename_i h6
      exact ⟨dec_f (fun h => hall.1 (hI.1 h).2.1 k (by omega) h6), rfl⟩
    · rename_i h6
      repeat' (first
          | (refine needI (by first | omega | (dsimp only; omega)) ?_; conv => whnf)
          | (refine arI trivial (by omega) ?_; conv => whnf)
          | (refine cmpT (by omega) ?_; conv => whnf)
          | (refine cmpF (by omega) ?_; conv => whnf)
          | fail)
      refine ⟨k + 1, (Sub.id_ 400 rfl auto_ auto_), ⟨by omega, fun j hj => ?_⟩, by dsimp only; omega⟩
      by_cases e : j = k
      · subst e; exact h6
      · exact ha j (by omega)
  have hnr := hall.2 fun j hj => ha j (by omega)
  refine Spec.dcall (n := 5) (fairLoopF p s B l.loop hp hR.sz hrdy2 (by omega) (by omega)) rfl (fun _ => ?_) (fun _ => ?_) <;> (conv => whnf)
  · rename_i h7; exact ⟨dec_t (hI.2 ⟨h5', hnr, h7⟩), rfl⟩
  · rename_i h7; exact ⟨dec_f (fun h => h7 (hI.1 h).2.2), rfl⟩
theorem IsLassoR (p : Pro) (q : Prp) (s : Siz) (l : Las) (hp : ¬ bigP p) (hq : ¬ bigQ q) (hw : wideB l.start = false) (hl1 : l.pre.length ≤ 400) (hl2 : l.loop.length ≤ 400) : PSpec Tryz.prog 22 [.agg (encP p), .agg (encQ q), .agg (encZ s), .agg (encLs l)] (fun u => u = .bool (decide (lasB p q s (rchB q) l))) := by
  have hle := bigP_le hp
  have hws := wide_le hw
  refine PSpec.intro tt_ok mx_ok Tryz.func22 rfl (by decide) ?_; (conv => whnf)
  refine boxP rfl ?_
  conv => whnf
  refine boxP rfl ?_
  conv => whnf
  refine boxP rfl ?_
  conv => whnf
  refine boxP rfl ?_
  conv => whnf
  (refine Spec.of_pure (n := 5) (sizedPropertyR p q s hp hq) rfl ?_; rintro _ rfl; conv => whnf)
  refine cmpI (fun h1 => ?_) (fun h1 => ?_) <;> conv => whnf
  · exact ⟨dec_f (fun h => h1 h.1), rfl⟩
  refine cmpI (fun h2 => ?_) (fun h2 => ?_) <;> conv => whnf
  · exact ⟨dec_f (fun h => h2 h.2.1), rfl⟩
  have h1' : sizQ p q s = 0 := by omega
  have h2' : q.kind = 2 := by omega
  have hz := sizQ_ok h1'
  refine Spec.dcall (n := 5) (isInitialR p q s l.start hp hq hw hz.2) rfl (fun _ => ?_) (fun _ => ?_) <;> (conv => whnf)
  case refine_2 =>
    rename_i h3
    exact ⟨dec_f (fun h => h3 h.2.2.1), rfl⟩
  rename_i h3
  have hR := rdy_of hp hw hz.2 h3.1
  have hA := replayR p s l.start l.pre hR (by omega)
  by_cases h4 : runOk p s l.start l.pre
  case neg =>
    obtain ⟨e, he, hr⟩ := rp_no (acc := [l.start]) h4
    rw [hr] at hA
    (refine Spec.of_pure (n := 5) (hA) rfl ?_; rintro _ rfl; conv => whnf)
    refine cmpT he ?_
    conv => whnf
    exact ⟨dec_f (fun h => h4 h.2.2.2.1), rfl⟩
  rw [rp_ok h4] at hA
  have hA' : PSpec Tryz.prog 47 [.agg (encP p), .agg (encZ s), .agg (encC l.start), .sl stp0 encX l.pre] (fun u => u = rpA (trs p l.start l.pre) 0) := hA
  have hlen := trs_len p l.start l.pre
  have hrdy := trs_rdy hR h4
  have hRm : Rdy p s (midL p l) := hrdy l.pre.length (Nat.le_refl _)
  have hB := replayR p s (midL p l) l.loop hRm (by omega)
  have hmid : (trs p l.start l.pre).getD l.pre.length cfg0 = midL p l := rfl
  have hlas : ∀ B, B = trs p (midL p l) l.loop → (lasB p q s (rchB q) l ↔ (∀ d ∈ trs p l.start l.pre, ¬ rchB q d) ∧ runOk p s (midL p l) l.loop ∧ B.getD l.loop.length cfg0 = midL p l ∧ (∀ d ∈ B, ¬ rchB q d) ∧ fairB p s B l.loop) := by
    rintro B rfl
    exact ⟨fun h => ⟨h.2.2.2.2.1, h.2.2.2.2.2.run, h.2.2.2.2.2.back, h.2.2.2.2.2.not, h.2.2.2.2.2.free⟩, fun h => ⟨h1', h2', h3, h4, h.1, ⟨h.2.1, h.2.2.1, h.2.2.2.1, h.2.2.2.2⟩⟩⟩
  have hrdy' : ∀ k, k < (trs p l.start l.pre).length → Rdy p s ((trs p l.start l.pre).getD k cfg0) := fun k hk => hrdy k (by omega)
  generalize trs p l.start l.pre = A at hA' hlen hrdy' hmid hlas
  clear hrdy hA
  (refine Spec.of_pure (n := 5) (hA') rfl ?_; rintro _ rfl; conv => whnf)
  refine cmpF (by omega) ?_
  conv => whnf
  refine drawI (by decide +kernel) ?_
  conv => whnf
  refine arI trivial (by omega) ?_
  conv => whnf
  refine needI (by omega) ?_
  rw [show ((A.length : Int) - 1).toNat = l.pre.length by omega, hmid]
  conv => whnf
  by_cases h5 : runOk p s (midL p l) l.loop
  case neg =>
    obtain ⟨e, he, hr⟩ := rp_no (acc := [midL p l]) h5
    rw [hr] at hB
    (refine callPI 5 (hB) rfl ⟨_, rfl⟩ ?_; rintro _ rfl; conv => whnf)
    refine drawI (by decide +kernel) ?_
    conv => whnf
    refine cmpT he ?_
    conv => whnf
    exact ⟨dec_f (fun h => h5 h.2.2.2.2.2.run), rfl⟩
  rw [rp_ok h5] at hB
  have hB' : PSpec Tryz.prog 47 [.agg (encP p), .agg (encZ s), .agg (encC (midL p l)), .sl stp0 encX l.loop] (fun u => u = rpA (trs p (midL p l) l.loop) 0) := hB
  have hlen2 := trs_len p (midL p l) l.loop
  have hrdy2 : ∀ k, k < (trs p (midL p l) l.loop).length → Rdy p s ((trs p (midL p l) l.loop).getD k cfg0) := fun k hk => trs_rdy hRm h5 k (by omega)
  have hmid2 : (trs p (midL p l) l.loop).getD 0 cfg0 = midL p l := rfl
  have hI := hlas _ rfl
  generalize trs p (midL p l) l.loop = B at hB' hlen2 hrdy2 hmid2 hI
  clear hB hlas
  (refine callPI 5 (hB') rfl ⟨_, rfl⟩ ?_; rintro _ rfl; conv => whnf)
  refine drawI (by decide +kernel) ?_
  conv => whnf
  refine cmpF (by omega) ?_
  conv => whnf
  refine needI (by omega) ?_
  conv => whnf
  refine arI trivial (by omega) ?_
  conv => whnf
  refine needI (by omega) ?_
  conv => whnf
  have hw0 := (hrdy2 0 (by omega)).wide
  rw [show ((B.length : Int) - 1).toNat = l.loop.length by omega]
  (refine callPI 5 (compareR (B.getD 0 cfg0) (B.getD l.loop.length cfg0) hw0) rfl ⟨_, rfl⟩ ?_; rintro _ rfl; conv => whnf)
  refine cmpI (fun h6 => ?_) (fun h6 => ?_) <;> conv => whnf
  · exact ⟨dec_f (fun h => h6 (by rw [(hI.1 h).2.2.1, hmid2, cmpC_self])), rfl⟩
  have h6' : B.getD l.loop.length cfg0 = midL p l := by rw [← hmid2]; exact (cmpC_same (by omega)).symm
  refine WPc.loopF tt_ok mx_ok (fun k : Nat => k ≤ A.length ∧ ∀ j, j < k → ¬ rchB q (A.getD j cfg0)) (fun k => [(12, .int .i64 (k : Int))]) (fun _ => []) (fun k => A.length - k) 0 ⟨by omega, fun j hj => by omega⟩ ?_; conv => whnf
  refine ⟨(Sub.id_ 400 rfl auto_ auto_), ?_⟩
  rintro k ⟨hk, ha⟩
  conv => whnf
  refine cmpI (fun g1 => ?_) (fun g1 => ?_) <;> conv => whnf
  · have hRk := hrdy' k (by omega)
    refine drawI (by decide +kernel) ?_
    conv => whnf
    refine needI (by omega) ?_
    conv => whnf
    rw [Int.toNat_natCast]
    refine callD 5 (reachedR q (A.getD k cfg0) hq hRk.wide hRk.plain.2) rfl (fun _ => ?_) (fun _ => ?_) <;> (conv => whnf)
    · rename_i h7
      exact ⟨dec_f (fun h => (hI.1 h).1 _ (getD_memA cfg0 (show k < A.length by omega)) h7), rfl⟩
    · rename_i h7
      repeat' (first
          | (refine needI (by first | omega | (dsimp only; omega)) ?_; conv => whnf)
          | (refine arI trivial (by omega) ?_; conv => whnf)
          | (refine cmpT (by omega) ?_; conv => whnf)
          | (refine cmpF (by omega) ?_; conv => whnf)
          | fail)
      refine ⟨k + 1, (Sub.id_ 400 rfl auto_ auto_), ⟨by omega, fun j hj => ?_⟩, by dsimp only; omega⟩
      by_cases e : j = k
      · subst e; exact h7
      · exact ha j (by omega)
  have hnA : ∀ d ∈ A, ¬ rchB q d := fun d hd => by
    obtain ⟨j, hj, rfl⟩ := mem_getDA cfg0 hd
    exact ha j (by omega)
  clear ha hk g1
  refine WPc.loopF tt_ok mx_ok (fun k : Nat => k ≤ B.length ∧ ∀ j, j < k → ¬ rchB q (B.getD j cfg0)) (fun k => [(13, .int .i64 (k : Int))]) (fun _ => []) (fun k => B.length - k) 0 ⟨by omega, fun j hj => by omega⟩ ?_; conv => whnf
  refine ⟨(Sub.id_ 400 rfl auto_ auto_), ?_⟩
  rintro k ⟨hk, ha⟩
  conv => whnf
  refine cmpI (fun g1 => ?_) (fun g1 => ?_) <;> conv => whnf
  · have hRk := hrdy2 k (by omega)
    refine drawI (by decide +kernel) ?_
    conv => whnf
    refine needI (by omega) ?_
    conv => whnf
    rw [Int.toNat_natCast]
    refine callD 5 (reachedR q (B.getD k cfg0) hq hRk.wide hRk.plain.2) rfl (fun _ => ?_) (fun _ => ?_) <;> (conv => whnf)
    · rename_i h7
      exact ⟨dec_f (fun h => (hI.1 h).2.2.2.1 _ (getD_memA cfg0 (show k < B.length by omega)) h7), rfl⟩
    · rename_i h7
      repeat' (first
          | (refine needI (by first | omega | (dsimp only; omega)) ?_; conv => whnf)
          | (refine arI trivial (by omega) ?_; conv => whnf)
          | (refine cmpT (by omega) ?_; conv => whnf)
          | (refine cmpF (by omega) ?_; conv => whnf)
          | fail)
      refine ⟨k + 1, (Sub.id_ 400 rfl auto_ auto_), ⟨by omega, fun j hj => ?_⟩, by dsimp only; omega⟩
      by_cases e : j = k
      · subst e; exact h7
      · exact ha j (by omega)
  have hnB : ∀ d ∈ B, ¬ rchB q d := fun d hd => by
    obtain ⟨j, hj, rfl⟩ := mem_getDA cfg0 hd
    exact ha j (by omega)
  clear ha hk g1
  have hlow : ∀ r i : Int, s.n - s.f ≤ i → freeB p s B l.loop r i := fun r i hi => .inr ⟨_, getD_memA cfg0 (show 0 < B.length by omega), fun h => by
    have := h.1
    rw [(hrdy2 0 (by omega)).vc.cor] at this
    omega⟩
  have hsl : s.n - s.f ≤ l.start.states.length := by
    have h8 := hR.plain.2.2
    rw [h3.1.cor] at h8
    exact h8
  refine WPc.loopF tt_ok mx_ok (fun r : Nat => r ≤ p.rules.length ∧ ∀ r' : Nat, r' < r → ∀ i : Nat, i < l.start.states.length → freeB p s B l.loop r' i) (fun r => [(14, .int .i64 (r : Int))]) (fun _ => []) (fun r => p.rules.length - r) 0 ⟨by omega, fun j hj => by omega⟩ ?_; conv => whnf
  refine ⟨(Sub.id_ 400 rfl auto_ auto_), ?_⟩
  rintro r ⟨hr, hfr⟩
  conv => whnf
  refine cmpI (fun g1 => ?_) (fun g1 => ?_) <;> conv => whnf
  case refine_2 =>
    exact ⟨dec_t (hI.2 ⟨hnA, h5, h6', hnB, fun r' i hr' hi => hfr r' (by omega) i (by omega)⟩), rfl⟩
  refine WPc.loopF tt_ok mx_ok (fun i : Nat => i ≤ l.start.states.length ∧ ∀ i' : Nat, i' < i → freeB p s B l.loop r i') (fun i => [(15, .int .i64 (i : Int))]) (fun _ => []) (fun i => l.start.states.length - i) 0 ⟨by omega, fun j hj => by omega⟩ ?_; conv => whnf
  refine ⟨(Sub.id_ 400 rfl auto_ auto_), ?_⟩
  rintro i ⟨hi, hfi⟩
  conv => whnf
  refine cmpI (fun g2 => ?_) (fun g2 => ?_) <;> conv => whnf
  case refine_2 =>
    repeat' (first
        | (refine needI (by first | omega | (dsimp only; omega)) ?_; conv => whnf)
        | (refine arI trivial (by omega) ?_; conv => whnf)
        | (refine cmpT (by omega) ?_; conv => whnf)
        | (refine cmpF (by omega) ?_; conv => whnf)
        | fail)
    refine ⟨r + 1, (Sub.id_ 400 rfl auto_ auto_), ⟨by omega, fun r' hr' i' hi' => ?_⟩, by dsimp only; omega⟩
    by_cases e : r' = r
    · subst e; exact hfi i' (by omega)
    · exact hfr r' (by omega) i' hi'
  refine WPc.loopF tt_ok mx_ok (fun y : Nat × Bool => y.1 ≤ B.length ∧ (y.2 = true ↔ ∃ j, j < y.1 ∧ ¬ fcB p s (B.getD j cfg0) r i)) (fun y => [(17, .int .i64 (y.1 : Int)), (16, .bool y.2)]) (fun _ => []) (fun y => B.length - y.1) (0, false) ⟨Nat.zero_le _, by simp⟩ ?_; conv => whnf
  refine ⟨(Sub.id_ 400 rfl auto_ auto_), ?_⟩
  rintro ⟨k, t⟩ ⟨hk, hy⟩
  dsimp only at hk hy ⊢
  conv => whnf
  refine cmpI (fun g3 => ?_) (fun g3 => ?_) <;> conv => whnf
  · cases t with
    | true =>
      obtain ⟨j, hj, hnf⟩ := hy.1 rfl
      refine drawI (by decide +kernel) ?_
      conv => whnf
      repeat' (first
          | (refine needI (by first | omega | (dsimp only; omega)) ?_; conv => whnf)
          | (refine arI trivial (by omega) ?_; conv => whnf)
          | (refine cmpT (by omega) ?_; conv => whnf)
          | (refine cmpF (by omega) ?_; conv => whnf)
          | fail)
      exact ⟨(k + 1, true), (Sub.id_ 400 rfl auto_ auto_), ⟨by dsimp only; omega, ⟨fun _ => ⟨j, Nat.lt_succ_of_lt hj, hnf⟩, fun _ => rfl⟩⟩, by dsimp only; omega⟩
    | false =>
      have hRk := hrdy2 k (by omega)
      have hno : ∀ j, j < k → fcB p s (B.getD j cfg0) r i := fun j hj => Classical.byContradiction fun hnf => by
        have := hy.2 ⟨j, hj, hnf⟩
        cases this
      refine drawI (by decide +kernel) ?_
      conv => whnf
      refine needI (by omega) ?_
      conv => whnf
      rw [Int.toNat_natCast]
      refine callD 5 (isForcedR p s (B.getD k cfg0) r i hRk) rfl (fun _ => ?_) (fun _ => ?_) <;> (conv => whnf)
      · rename_i h8
        repeat' (first
            | (refine needI (by first | omega | (dsimp only; omega)) ?_; conv => whnf)
            | (refine arI trivial (by omega) ?_; conv => whnf)
            | (refine cmpT (by omega) ?_; conv => whnf)
            | (refine cmpF (by omega) ?_; conv => whnf)
            | fail)
        refine ⟨(k + 1, false), (Sub.id_ 400 rfl auto_ auto_), ⟨by dsimp only; omega, ⟨fun h => (by cases h), fun ⟨j, hj, hnf⟩ => absurd ?_ hnf⟩⟩, by dsimp only; omega⟩
        by_cases e : j = k
        · subst e; exact h8
        · exact hno j (by dsimp only at hj; omega)
      · rename_i h8
        repeat' (first
            | (refine needI (by first | omega | (dsimp only; omega)) ?_; conv => whnf)
            | (refine arI trivial (by omega) ?_; conv => whnf)
            | (refine cmpT (by omega) ?_; conv => whnf)
            | (refine cmpF (by omega) ?_; conv => whnf)
            | fail)
        exact ⟨(k + 1, true), (Sub.id_ 400 rfl auto_ auto_), ⟨by dsimp only; omega, ⟨fun _ => ⟨k, Nat.lt_succ_self k, h8⟩, fun _ => rfl⟩⟩, by dsimp only; omega⟩
  have hkB : k = B.length := by omega
  subst hkB
  refine WPc.loopF tt_ok mx_ok (fun z : Nat × Bool => z.1 ≤ l.loop.length ∧ (z.2 = true ↔ (t = true ∨ ∃ j, j < z.1 ∧ (l.loop.getD j stp0).rule = r ∧ (l.loop.getD j stp0).process = i))) (fun z => [(18, .int .i64 (z.1 : Int)), (16, .bool z.2)]) (fun _ => []) (fun z => l.loop.length - z.1) (0, t) ⟨Nat.zero_le _, by simp⟩ ?_; conv => whnf
  refine ⟨(Sub.id_ 400 rfl auto_ auto_), ?_⟩
  rintro ⟨k, u⟩ ⟨hk, hz⟩
  dsimp only at hk hz ⊢
  conv => whnf
  refine cmpI (fun g4 => ?_) (fun g4 => ?_) <;> conv => whnf
  · cases u with
    | true =>
      have hzt := hz.1 rfl
      repeat' (first
          | (refine needI (by first | omega | (dsimp only; omega)) ?_; conv => whnf)
          | (refine arI trivial (by omega) ?_; conv => whnf)
          | (refine cmpT (by omega) ?_; conv => whnf)
          | (refine cmpF (by omega) ?_; conv => whnf)
          | fail)
      refine ⟨(k + 1, true), (Sub.id_ 400 rfl auto_ auto_), ⟨by dsimp only; omega, ⟨fun _ => hzt.imp id fun ⟨j, hj, hh⟩ => ⟨j, Nat.lt_succ_of_lt hj, hh⟩, fun _ => rfl⟩⟩, by dsimp only; omega⟩
    | false =>
      have hzf : ¬ (t = true ∨ ∃ j, j < k ∧ (l.loop.getD j stp0).rule = r ∧ (l.loop.getD j stp0).process = i) := fun h => by
        have := hz.2 h
        cases this
      have hup : ((l.loop.getD k stp0).rule = r ∧ (l.loop.getD k stp0).process = i) → (t = true ∨ ∃ j, j < k + 1 ∧ (l.loop.getD j stp0).rule = r ∧ (l.loop.getD j stp0).process = i) := fun h => .inr ⟨k, Nat.lt_succ_self k, h⟩
      have hdn : ¬ ((l.loop.getD k stp0).rule = r ∧ (l.loop.getD k stp0).process = i) → ¬ (t = true ∨ ∃ j, j < k + 1 ∧ (l.loop.getD j stp0).rule = r ∧ (l.loop.getD j stp0).process = i) := by
        rintro h (h' | ⟨j, hj, hh⟩)
        · exact hzf (.inl h')
        · by_cases e : j = k
          · subst e; exact h hh
          · exact hzf (.inr ⟨j, by omega, hh⟩)
      refine needI (by omega) ?_
      conv => whnf
      rw [Int.toNat_natCast]
      refine cmpI (fun g5 => ?_) (fun g5 => ?_) <;> conv => whnf
      · refine needI (by omega) ?_
        conv => whnf
        rw [Int.toNat_natCast]
        refine cmpI (fun g6 => ?_) (fun g6 => ?_) <;> conv => whnf
        · repeat' (first
              | (refine needI (by first | omega | (dsimp only; omega)) ?_; conv => whnf)
              | (refine arI trivial (by omega) ?_; conv => whnf)
              | (refine cmpT (by omega) ?_; conv => whnf)
              | (refine cmpF (by omega) ?_; conv => whnf)
              | fail)
          exact ⟨(k + 1, true), (Sub.id_ 400 rfl auto_ auto_), ⟨by dsimp only; omega, ⟨fun _ => hup ⟨g5, g6⟩, fun _ => rfl⟩⟩, by dsimp only; omega⟩
        · repeat' (first
              | (refine needI (by first | omega | (dsimp only; omega)) ?_; conv => whnf)
              | (refine arI trivial (by omega) ?_; conv => whnf)
              | (refine cmpT (by omega) ?_; conv => whnf)
              | (refine cmpF (by omega) ?_; conv => whnf)
              | fail)
          exact ⟨(k + 1, false), (Sub.id_ 400 rfl auto_ auto_), ⟨by dsimp only; omega, ⟨fun h => (by cases h), fun h => absurd h (hdn fun hh => g6 hh.2)⟩⟩, by dsimp only; omega⟩
      · repeat' (first
            | (refine needI (by first | omega | (dsimp only; omega)) ?_; conv => whnf)
            | (refine arI trivial (by omega) ?_; conv => whnf)
            | (refine cmpT (by omega) ?_; conv => whnf)
            | (refine cmpF (by omega) ?_; conv => whnf)
            | fail)
        exact ⟨(k + 1, false), (Sub.id_ 400 rfl auto_ auto_), ⟨by dsimp only; omega, ⟨fun h => (by cases h), fun h => absurd h (hdn fun hh => g5 hh.1)⟩⟩, by dsimp only; omega⟩
  have hkl : k = l.loop.length := by omega
  subst hkl
  have hfree : u = true ↔ freeB p s B l.loop r i := by
    rw [hz, hy]
    constructor
    · rintro (⟨j, hj, hnf⟩ | ⟨j, hj, hh⟩)
      · exact .inr ⟨_, getD_memA cfg0 hj, hnf⟩
      · exact .inl ⟨_, getD_memA stp0 hj, hh⟩
    · rintro (⟨x, hx, hh⟩ | ⟨d, hd, hnf⟩)
      · obtain ⟨j, hj, rfl⟩ := mem_getDA stp0 hx
        exact .inr ⟨j, hj, hh⟩
      · obtain ⟨j, hj, rfl⟩ := mem_getDA cfg0 hd
        exact .inl ⟨j, hj, hnf⟩
  cases u with
  | true =>
    conv => whnf
    repeat' (first
        | (refine needI (by first | omega | (dsimp only; omega)) ?_; conv => whnf)
        | (refine arI trivial (by omega) ?_; conv => whnf)
        | (refine cmpT (by omega) ?_; conv => whnf)
        | (refine cmpF (by omega) ?_; conv => whnf)
        | fail)
    refine ⟨i + 1, (Sub.id_ 400 rfl auto_ auto_), ⟨by omega, fun i' hi' => ?_⟩, by dsimp only; omega⟩
    by_cases e : i' = i
    · subst e; exact hfree.1 rfl
    · exact hfi i' (by omega)
  | false =>
    conv => whnf
    refine ⟨dec_f fun h => ?_, rfl⟩
    have hnf : ¬ freeB p s B l.loop r i := fun hf => by
      have := hfree.2 hf
      cases this
    by_cases hlo : (i : Int) < s.n - s.f
    · exact hnf ((hI.1 h).2.2.2.2 r i (by omega) hlo)
    · exact hnf (hlow r i (by omega))
end Go.Proofs.YtcbckmnbdcjeeaaGreatDoor


/-
  The laws UnfoldLassos and UnfoldLassoTurns.
-/
namespace Go.Proofs.YtcbckmnbdcjeeaaGreatDoor
set_option maxRecDepth 100000
set_option maxHeartbeats 16000000

theorem lawLassos (p : Pro) (q : Prp) (s : Siz) (l : Las) : PSpec Tryz.prog 5 [.agg (encCs p q s), .agg (encLs l)] (fun u => u = .bool true) := by
  refine PSpec.intro tt_ok mx_ok Tryz.func5 rfl (by decide) ?_; (conv => whnf)
  refine boxP rfl ?_
  conv => whnf
  refine boxP rfl ?_
  conv => whnf
  refine Spec.dcall (n := 5) (bigCaseF p q s) rfl (fun _ => ?_) (fun _ => ?_) <;> (conv => whnf)
  · (refine Spec.of_pure (n := 5) (knownF) rfl ?_; rintro _ rfl; conv => whnf)
    exact ⟨rfl, rfl⟩
  rename_i hb
  have hp : ¬ bigP p := fun h => hb (.inl h)
  have hq : ¬ bigQ q := fun h => hb (.inr h)
  have hW := wideF l.start
  cases hw : wideB l.start with
  | true =>
    rw [hw] at hW
    (refine Spec.of_pure (n := 5) (hW) rfl ?_; rintro _ rfl; conv => whnf)
    (refine Spec.of_pure (n := 5) (knownF) rfl ?_; rintro _ rfl; conv => whnf)
    exact ⟨rfl, rfl⟩
  | false =>
    rw [hw] at hW
    (refine Spec.of_pure (n := 5) (hW) rfl ?_; rintro _ rfl; conv => whnf)
    refine cmpI (fun h1 => ?_) (fun h1 => ?_) <;> conv => whnf
    · (refine Spec.of_pure (n := 5) (knownF) rfl ?_; rintro _ rfl; conv => whnf)
      exact ⟨rfl, rfl⟩
    refine cmpI (fun h2 => ?_) (fun h2 => ?_) <;> conv => whnf
    · (refine Spec.of_pure (n := 5) (knownF) rfl ?_; rintro _ rfl; conv => whnf)
      exact ⟨rfl, rfl⟩
    have b1 := IsLassoF p q s l hp hq hw (by omega) (by omega)
    have b2 := IsLassoR p q s l hp hq hw (by omega) (by omega)
    generalize decide (lasB p q s (rchB q) l) = b at b1 b2
    refine drawI (by decide +kernel) ?_
    conv => whnf
    cases b
    all_goals
      (refine callPI 5 (b1) rfl ⟨_, rfl⟩ ?_; rintro _ rfl; conv => whnf)
      (refine callPI 5 (b2) rfl ⟨_, rfl⟩ ?_; rintro _ rfl; conv => whnf)
      (refine callPI 5 (knownF) rfl ⟨_, rfl⟩ ?_; rintro _ rfl; conv => whnf)
      exact ⟨rfl, rfl⟩
theorem lawLassoTurns (p : Pro) (q : Prp) (s : Siz) (l : Las) : PSpec Tryz.prog 6 [.agg (encCs p q s), .agg (encLs l)] (fun u => u = .bool true) := by
  refine PSpec.intro tt_ok mx_ok Tryz.func6 rfl (by decide) ?_; (conv => whnf)
  refine boxP rfl ?_
  conv => whnf
  refine boxP rfl ?_
  conv => whnf
  refine Spec.dcall (n := 5) (bigCaseF p q s) rfl (fun _ => ?_) (fun _ => ?_) <;> (conv => whnf)
  · (refine Spec.of_pure (n := 5) (knownF) rfl ?_; rintro _ rfl; conv => whnf)
    exact ⟨rfl, rfl⟩
  rename_i hb
  have hp : ¬ bigP p := fun h => hb (.inl h)
  have hq : ¬ bigQ q := fun h => hb (.inr h)
  have hW := wideF l.start
  cases hw : wideB l.start with
  | true =>
    rw [hw] at hW
    (refine Spec.of_pure (n := 5) (hW) rfl ?_; rintro _ rfl; conv => whnf)
    (refine Spec.of_pure (n := 5) (knownF) rfl ?_; rintro _ rfl; conv => whnf)
    exact ⟨rfl, rfl⟩
  | false =>
    rw [hw] at hW
    (refine Spec.of_pure (n := 5) (hW) rfl ?_; rintro _ rfl; conv => whnf)
    refine cmpI (fun h1 => ?_) (fun h1 => ?_) <;> conv => whnf
    · (refine Spec.of_pure (n := 5) (knownF) rfl ?_; rintro _ rfl; conv => whnf)
      exact ⟨rfl, rfl⟩
    refine cmpI (fun h2 => ?_) (fun h2 => ?_) <;> conv => whnf
    · (refine Spec.of_pure (n := 5) (knownF) rfl ?_; rintro _ rfl; conv => whnf)
      exact ⟨rfl, rfl⟩
    have b1 := IsLassoF p q s l hp hq hw (by omega) (by omega)
    refine drawF (by decide +kernel) ?_
    conv => whnf
    refine bldI stp0 encX [] rfl ?_
    conv => whnf
    refine leakN ?_
    conv => whnf
    refine appI _ rfl (by dsimp only [List.length_nil]; omega) ?_
    conv => whnf
    refine appI _ rfl (by simp only [List.length_append, List.length_nil]; omega) ?_
    conv => whnf
    refine drawF (by decide +kernel) ?_
    conv => whnf
    refine bldI stp0 encX [] rfl ?_
    conv => whnf
    refine leakN ?_
    conv => whnf
    refine appI _ rfl (by dsimp only [List.length_nil]; omega) ?_
    conv => whnf
    refine appI _ rfl (by simp only [List.length_append, List.length_nil]; omega) ?_
    conv => whnf
    refine Spec.dcall (n := 5) (b1) rfl (fun _ => ?_) (fun _ => ?_) <;> (conv => whnf)
    case refine_2 =>
      (refine Spec.of_pure (n := 5) (knownF) rfl ?_; rintro _ rfl; conv => whnf)
      exact ⟨rfl, rfl⟩
    rename_i hl
    have b2 := IsLassoF p q s ⟨l.start, l.pre ++ l.loop, l.loop⟩ hp hq hw (by rw [List.length_append]; omega) (by dsimp only; omega)
    have b3 := IsLassoF p q s ⟨l.start, l.pre, l.loop ++ l.loop⟩ hp hq hw (by dsimp only; omega) (by rw [List.length_append]; omega)
    rw [decide_eq_true (lasB_longer hl)] at b2
    rw [decide_eq_true (lasB_twice hl)] at b3
    (refine Spec.borrow (n := 5) (b2) rfl (by rintro _ rfl; rfl) ?_; rintro _ rfl; conv => whnf)
    (refine Spec.borrow (n := 5) (b3) rfl (by rintro _ rfl; rfl) ?_; rintro _ rfl; conv => whnf)
    (refine Spec.of_pure (n := 5) (knownF) rfl ?_; rintro _ rfl; conv => whnf)
    exact ⟨rfl, rfl⟩
end Go.Proofs.YtcbckmnbdcjeeaaGreatDoor
