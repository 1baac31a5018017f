import Derived.Test.YtjnjieabdjpfnaaGreatDoorA1
import Derived.Test.YtjnjieabdjpfnaaGreatDoorM9
import Derived.Test.YtjnjieabdjpfnaaGreatDoorMD
import Derived.Test.YtjnjieabdjpfnaaGreatDoorF2
import Derived.Laws.BytesArg
import Derived.Test.YtjnjieabdjpfnaaGreatDoorM6
set_option linter.unusedVariables false
set_option linter.unusedSimpArgs false
namespace Go.Proofs.YtjnjieabdjpfnaaGreatDoor
set_option maxRecDepth 100000
set_option maxHeartbeats 16000000
theorem runOk_app {p : Pro} {s : Siz} : ∀ {a b : List Stp} {c : Cfg}, runOk p s c (a ++ b) ↔ runOk p s c a ∧ runOk p s ((trs p c a).getD a.length cfg0) b
 |[], b, c => by simp [runOk, trs, tr]
 |x :: a, b, c => by
  have ih := runOk_app (p := p) (s := s) (a := a) (b := b) (c := apC c (rulX p x) x)
  simp only [List.cons_append, runOk, ih]
  constructor
  ·rintro ⟨h1, h2, h3, h4⟩; exact ⟨⟨h1, h2, h3⟩, h4⟩
  ·rintro ⟨⟨h1, h2, h3⟩, h4⟩; exact ⟨h1, h2, h3, h4⟩
theorem tr_app {p : Pro} : ∀ (a b : List Stp) (c : Cfg), tr p c (a ++ b) = tr p c a ++ tr p ((trs p c a).getD a.length cfg0) b
 |[], b, c => rfl
 |x :: a, b, c => by
  have ih := tr_app (p := p) a b (apC c (rulX p x) x)
  simp only [List.cons_append, tr, ih]
  rfl
theorem trs_app {p : Pro} (a b : List Stp) (c : Cfg) : trs p c (a ++ b) = trs p c a ++ tr p ((trs p c a).getD a.length cfg0) b := by
 unfold trs; rw [tr_app]; rfl
theorem trs_end {p : Pro} (a b : List Stp) (c : Cfg) : (trs p c (a ++ b)).getD (a ++ b).length cfg0 = (trs p ((trs p c a).getD a.length cfg0) b).getD b.length cfg0 := by
 induction a generalizing c with
 |nil => rfl
 |cons x a ih => exact ih (apC c (rulX p x) x)
theorem trs_drop {p : Pro} (a b : List Stp) (c : Cfg) : (trs p c (a ++ b)).drop a.length = trs p ((trs p c a).getD a.length cfg0) b := by
 induction a generalizing c with
 |nil => rfl
 |cons x a ih => exact ih (apC c (rulX p x) x)
structure Las where
 start : Cfg
 pre : List Stp
 loop : List Stp
def encLs (l : Las) : List AV := encC l.start ++ [.sl stp0 encX l.pre, .sl stp0 encX l.loop]
def midL (p : Pro) (l : Las) : Cfg := (trs p l.start l.pre).getD l.pre.length cfg0
def freeB (p : Pro) (s : Siz) (b : List Cfg) (loop : List Stp) (r i : Int) : Prop := (∃ x ∈ loop, x.rule = r ∧ x.process = i) ∨ ∃ d ∈ b, ¬ fcB p s d r i
structure LoopOk (p : Pro) (q : Prp) (s : Siz) (R : Cfg → Prop) (m : Cfg) (loop : List Stp) : Prop where
 run : runOk p s m loop
 back : (trs p m loop).getD loop.length cfg0 = m
 not : ∀ d ∈ trs p m loop, ¬ R d
 free : ∀ r i : Nat, r < p.rules.length → (i : Int) < s.n - s.f → freeB p s (trs p m loop) loop r i
theorem LoopOk.twice {p : Pro} {q : Prp} {s : Siz} {R : Cfg → Prop} {m : Cfg} {loop : List Stp} (h : LoopOk p q s R m loop) : LoopOk p q s R m (loop ++ loop) := by
 have e : trs p m (loop ++ loop) = trs p m loop ++ tr p m loop := by rw [trs_app, h.back]
 refine ⟨runOk_app.2 ⟨h.run, by rw [h.back]; exact h.run⟩, by rw [trs_end, h.back, h.back], fun d hd => ?_, fun r i hr hi => ?_⟩
 ·rw [e, List.mem_append] at hd
  rcases hd with hd | hd
  ·exact h.not d hd
  ·exact h.not d (List.mem_cons_of_mem _ hd)
 ·rcases h.free r i hr hi with ⟨x, hx, hh⟩ | ⟨d, hd, hh⟩
  ·exact .inl ⟨x, List.mem_append_left _ hx, hh⟩
  ·exact .inr ⟨d, by rw [e]; exact List.mem_append_left _ hd, hh⟩
def lasB (p : Pro) (q : Prp) (s : Siz) (R : Cfg → Prop) (l : Las) : Prop := sizQ p q s = 0 ∧ q.kind = 2 ∧ isI p q s l.start ∧ runOk p s l.start l.pre ∧ (∀ d ∈ trs p l.start l.pre, ¬ R d) ∧ LoopOk p q s R (midL p l) l.loop
theorem lasB_longer {p : Pro} {q : Prp} {s : Siz} {R : Cfg → Prop} {l : Las} (h : lasB p q s R l) : lasB p q s R ⟨l.start, l.pre ++ l.loop, l.loop⟩ := by
 obtain ⟨h1, h2, h3, h4, h5, h6⟩ := h
 have hm : midL p ⟨l.start, l.pre ++ l.loop, l.loop⟩ = midL p l := by
  show (trs p l.start (l.pre ++ l.loop)).getD (l.pre ++ l.loop).length cfg0 = _
  rw [trs_end]
  exact h6.back
 refine ⟨h1, h2, h3, runOk_app.2 ⟨h4, h6.run⟩, fun d hd => ?_, by rw [hm]; exact h6⟩
 have hd' : d ∈ trs p l.start (l.pre ++ l.loop) := hd
 rw [trs_app, List.mem_append] at hd'
 rcases hd' with hd' | hd'
 ·exact h5 d hd'
 ·exact h6.not d (List.mem_cons_of_mem _ hd')
theorem lasB_twice {p : Pro} {q : Prp} {s : Siz} {R : Cfg → Prop} {l : Las} (h : lasB p q s R l) : lasB p q s R ⟨l.start, l.pre, l.loop ++ l.loop⟩ := by
 obtain ⟨h1, h2, h3, h4, h5, h6⟩ := h
 exact ⟨h1, h2, h3, h4, h5, h6.twice⟩
def prI (r k : Nat) : List (Int × Int) := (List.range k).map fun i : Nat => ((r : Int), (i : Int))
def prA (m k : Nat) : List (Int × Int) := (List.range k).flatMap fun r => prI r m
theorem prI_up (r k : Nat) : prI r (k + 1) = prI r k ++ [((r : Int), (k : Int))] := by simp [prI, List.range_succ]
theorem prA_up (m k : Nat) : prA m (k + 1) = prA m k ++ prI k m := by simp [prA, List.range_succ, List.flatMap_append]
theorem prI_len (r k : Nat) : (prI r k).length = k := by simp [prI]
theorem prA_len (m : Nat) : ∀ k, (prA m k).length = k * m
 |0 => by simp [prA]
 |k + 1 => by rw [prA_up, List.length_append, prI_len, prA_len m k, Nat.add_mul, Nat.one_mul]
theorem prA_mem {m k : Nat} {a : Int × Int} : a ∈ prA m k ↔ ∃ r i : Nat, r < k ∧ i < m ∧ a = ((r : Int), (i : Int)) := by
 simp only [prA, prI, List.mem_flatMap, List.mem_map, List.mem_range]
 constructor
 ·rintro ⟨r, hr, i, hi, rfl⟩; exact ⟨r, i, hr, hi, rfl⟩
 ·rintro ⟨r, i, hr, hi, rfl⟩; exact ⟨r, hr, i, hi, rfl⟩
def encK (k : Int × Int) : List AV := [.int .i64 k.1, .int .i64 k.2]
def rowK (l : List (Int × Int)) : Blk := .row 173 (0, 0) encK l
theorem pairsF (p : Pro) (s : Siz) (hp : ¬ bigP p) (hs : (1 ≤ s.n ∧ s.n ≤ 8) ∧ (0 ≤ s.f ∧ s.f ≤ s.n)) : PSpec Tryz.prog 154 [.agg (encP p), .agg (encZ s)] (fun u => u = .sl (0, 0) encK (prA (s.n - s.f).toNat p.rules.length)) := by
 have hle := bigP_le hp
 have hm : (s.n - s.f).toNat ≤ 8 := by omega
 have hA := prA_len (s.n - s.f).toNat
 refine PSpec.intro tt_ok mx_ok Tryz.func154 rfl (by decide) ?_; (conv => whnf)
 refine boxP rfl ?_
 conv => whnf
 refine boxP rfl ?_
 conv => whnf
 refine WPc.loopF tt_ok mx_ok (fun k1 : Nat => k1 ≤ p.rules.length) (fun k1 => [(11, .int .i64 (k1 : Int)), (5, .row 1000 (prA (s.n - s.f).toNat k1).length 2)]) (fun k1 => [(1000, rowK (prA (s.n - s.f).toNat k1))]) (fun k1 => p.rules.length - k1) 0 (Nat.zero_le _) ?_; conv => whnf
 refine ⟨Sub.by_ [(1000, .nil 2)] _ 400 rfl (auto_) (auto_), ?_⟩
 rintro k1 hk1
 conv => whnf
 refine cmpI ?_ ?_ <;> (intro g1; conv => whnf)
 ·refine aI ?_
  conv => whnf
  have hk8 : (prA (s.n - s.f).toNat k1).length ≤ 8000 := by
   rw [hA]
   have := Nat.mul_le_mul (show k1 ≤ 1000 by omega) hm
   omega
  have e0 : prA (s.n - s.f).toNat k1 ++ prI k1 0 = prA (s.n - s.f).toNat k1 := by simp [prI]
  refine WPc.loopF tt_ok mx_ok (fun k2 : Nat => k2 ≤ (s.n - s.f).toNat) (fun k2 => [(19, .int .i64 (k2 : Int)), (5, .row 1000 (prA (s.n - s.f).toNat k1 ++ prI k1 k2).length 2)]) (fun k2 => [(1000, rowK (prA (s.n - s.f).toNat k1 ++ prI k1 k2))]) (fun k2 => (s.n - s.f).toNat - k2) 0 (Nat.zero_le _) ?_; conv => whnf
  refine ⟨by rw [e0]; exact sI, ?_⟩
  rintro k2 hk2
  conv => whnf
  refine cmpI ?_ ?_ <;> (intro g2; conv => whnf)
  ·have hll : (prA (s.n - s.f).toNat k1 ++ prI k1 k2).length ≤ 1000000 := by rw [List.length_append, prI_len]; omega
   refine bldI (0, 0) encK [((k1 : Int), (k2 : Int))] rfl ?_
   conv => whnf
   refine appI [((k1 : Int), (k2 : Int))] rfl lI ?_
   conv => whnf
   repeat' ((first|refine nI ?_|refine aI ?_|refine tI ?_|refine fI ?_|fail);conv => whnf)
   have e3 : prA (s.n - s.f).toNat k1 ++ prI k1 (k2 + 1) = prA (s.n - s.f).toNat k1 ++ prI k1 k2 ++ [((k1 : Int), (k2 : Int))] := by rw [prI_up, ← List.append_assoc]
   refine ⟨k2 + 1, ?_, by omega, by dsimp only; omega⟩
   dsimp only
   rw [e3]
   exact Sub.by_ [(1000, .old 27)] _ 400 rfl (auto_) (auto_)
  ·have ek : k2 = (s.n - s.f).toNat := by omega
   have e2 : prA (s.n - s.f).toNat (k1 + 1) = prA (s.n - s.f).toNat k1 ++ prI k1 k2 := by rw [ek, prA_up]
   repeat' ((first|refine nI ?_|refine aI ?_|refine tI ?_|refine fI ?_|fail);conv => whnf)
   refine ⟨k1 + 1, ?_, by omega, by dsimp only; omega⟩
   dsimp only
   rw [e2]
   exact sI
 ·obtain rfl : k1 = p.rules.length := by omega
  exact ⟨rfl, rfl⟩
def kyP (k : Int × Int) : Value := .agg #[.int .i64 k.1, .int .i64 k.2]
theorem keyPair : KeyOk Tryz.prog 173 kyP := by
 have ht : Tryz.prog.underlying 3 = some (.int .i64) := Tryz.underlying3
 have hag : ∀ w, (isAgg 3).run Tryz.prog w = .ok false w := fun w => by simp [isAgg, run_underlying ht]
 have hag2 : ∀ w, (isAgg 173).run Tryz.prog w = .ok true w := fun w => by simp [isAgg, run_underlying Tryz.underlying173]
 refine KeyOk.ask Tryz.underlying173 ?_ ?_ ?_ ?_ ?_
 ·rintro ⟨a, b⟩ ⟨c, d⟩ h
  simpa [kyP] using h
 ·rintro e ⟨a, b⟩ w
  have h4 : ∀ n w, (Instr.checkKey e (n + 2) 173 (kyP (a, b))).run Tryz.prog w = .ok () w := fun n w => by
   simp [Instr.checkKey, run_underlying Tryz.underlying173, run_underlying ht, kyP, part, hag]
  exact h4 9998 w
 ·intro a b; rfl
 ·rintro ⟨a, b⟩ ⟨c, d⟩ w
  obtain ⟨p, q, e1, e2, e3⟩ := eqTy_ok (P := Tryz.prog) w 9 173 2 (by decide +kernel) 9991 #[.int .i64 a, .int .i64 b] #[.int .i64 c, .int .i64 d] 0 [a, b] [c, d] rfl rfl
   (fun j x hj => by rw [Nat.zero_add]; match j, hj with | 0, hj => cases hj; rfl | 1, hj => cases hj; rfl) (fun j x hj => by rw [Nat.zero_add]; match j, hj with | 0, hj => cases hj; rfl | 1, hj => cases hj; rfl)
  have hsz : (Go.sizeOf 173).run Tryz.prog w = .ok 2 w := by
   obtain ⟨i, hi⟩ : ∃ i, tt.find 173 = some i := ⟨_, rfl⟩
   have := TOk.size tt_ok hi w
   cases hi
   exact this
  simp [part, hag2, hsz] at e1 e2
  subst e1; subst e2
  refine ⟨_, e3, ?_⟩
  simp [kyP]
 ·rintro ⟨a, b⟩
  have h4 : ∀ n, Instr.sameBits (n + 1) (kyP (a, b)) (kyP (a, b)) = true := fun n => by simp [kyP, Instr.sameBits]
  exact h4 9999
structure TkI (l : List Stp) (f : Int × Int → Option Bool) : Prop where
 yes : ∀ a b, f a = some b → b = true ∧ ∃ x ∈ l, (x.rule, x.process) = a
 no : ∀ a, f a = none → ∀ x ∈ l, (x.rule, x.process) ≠ a
theorem TkI.nil : TkI [] (fun _ => none) := ⟨fun _ _ h => (by cases h), fun _ _ x hx => absurd hx List.not_mem_nil⟩
theorem TkI.up {l : List Stp} {k : Nat} {f : Int × Int → Option Bool} (h : TkI (l.take k) f) (hk : k < l.length) : TkI (l.take (k + 1)) (updF f ((l.getD k stp0).rule, (l.getD k stp0).process) true) := by
 have e : l.getD k stp0 = l[k] := by rw [gD, gL hk]; rfl
 rw [List.take_succ_eq_append_getElem hk, e]
 refine ⟨fun a b hb => ?_, fun a ha x hx => ?_⟩
 ·by_cases c : a = (l[k].rule, l[k].process)
  ·subst c
   rw [updF_same] at hb
   cases hb
   exact ⟨rfl, l[k], List.mem_append_right _ List.mem_cons_self, rfl⟩
  ·rw [updF_ne _ _ c] at hb
   obtain ⟨h1, x, hx, hh⟩ := h.yes a b hb
   exact ⟨h1, x, List.mem_append_left _ hx, hh⟩
 ·have c : a ≠ (l[k].rule, l[k].process) := fun c => by subst c; rw [updF_same] at ha; cases ha
  rw [updF_ne _ _ c] at ha
  rcases List.mem_append.1 hx with hx | hx
  ·exact h.no a ha x hx
  ·rw [List.mem_singleton] at hx; subst hx; exact fun e => c e.symm
def fairB (p : Pro) (s : Siz) (b : List Cfg) (loop : List Stp) : Prop := ∀ r i : Nat, r < p.rules.length → (i : Int) < s.n - s.f → freeB p s b loop r i
noncomputable instance decFair (p : Pro) (s : Siz) (b : List Cfg) (loop : List Stp) : Decidable (fairB p s b loop) := Classical.propDecidable _
theorem fairB_all {p : Pro} {s : Siz} {b : List Cfg} {loop : List Stp} (h : ∀ a ∈ prA (s.n - s.f).toNat p.rules.length, freeB p s b loop a.1 a.2) : fairB p s b loop :=
 fun r i hr hi => h ((r : Int), (i : Int)) (prA_mem.2 ⟨r, i, hr, by omega, rfl⟩)
theorem fairB_at {p : Pro} {s : Siz} {b : List Cfg} {loop : List Stp} (h : fairB p s b loop) {a : Int × Int} (ha : a ∈ prA (s.n - s.f).toNat p.rules.length) : freeB p s b loop a.1 a.2 := by
 obtain ⟨r, i, hr, hi, rfl⟩ := prA_mem.1 ha
 exact h r i hr (by omega)
theorem getD_memA {α : Type} (d : α) {l : List α} {k : Nat} (h : k < l.length) : l.getD k d ∈ l := by
 rw [gD, gL h]; exact List.getElem_mem h
theorem mem_getDA {α : Type} (d : α) {l : List α} {a : α} (h : a ∈ l) : ∃ k, k < l.length ∧ l.getD k d = a := by
 obtain ⟨k, hk, rfl⟩ := List.getElem_of_mem h
 exact ⟨k, hk, by rw [gD, gL hk]; rfl⟩
theorem fairLoopF (p : Pro) (s : Siz) (b : List Cfg) (loop : List Stp) (hp : ¬ bigP p) (hs : (1 ≤ s.n ∧ s.n ≤ 8) ∧ (0 ≤ s.f ∧ s.f ≤ s.n)) (hb : ∀ k, k < b.length → Rdy p s (b.getD k cfg0)) (hbl : b.length ≤ 100000) (hll : loop.length ≤ 100000) :
  PSpec Tryz.prog 102 [.agg (encP p), .agg (encZ s), .sl cfg0 encC b, .sl stp0 encX loop] (fun u => u = .bool (decide (fairB p s b loop))) := by
 have hle := bigP_le hp
 have hal : (prA (s.n - s.f).toNat p.rules.length).length ≤ 8000 := by
  rw [prA_len]
  have := Nat.mul_le_mul (show p.rules.length ≤ 1000 by omega) (show (s.n - s.f).toNat ≤ 8 by omega)
  omega
 refine PSpec.intro tt_ok mx_ok Tryz.func102 rfl (by decide) ?_; (conv => whnf)
 refine boxP rfl ?_
 conv => whnf
 refine boxP rfl ?_
 conv => whnf
 refine mapI kyP Value.bool ?_
 conv => whnf
 refine WPc.loopF tt_ok mx_ok (fun x : Nat × (Int × Int → Option Bool) => x.1 ≤ loop.length ∧ TkI (loop.take x.1) x.2) (fun x => [(20, .int .i64 (x.1 : Int))]) (fun x => [(17, .map kyP Value.bool x.2)]) (fun x => loop.length - x.1) (0, fun _ => none) ⟨Nat.zero_le _, TkI.nil⟩ ?_; conv => whnf
 refine ⟨sI, ?_⟩
 rintro ⟨k, f⟩ ⟨hk, hf⟩
 dsimp only at hk hf
 conv => whnf
 refine cmpI ?_ ?_ <;> (intro g1; conv => whnf)
 ·refine nI ?_
  conv => whnf
  rw [tN]
  refine updI keyPair ((loop.getD k stp0).rule, (loop.getD k stp0).process) true rfl rfl ?_
  conv => whnf
  repeat' ((first|refine nI ?_|refine aI ?_|refine tI ?_|refine fI ?_|fail);conv => whnf)
  exact ⟨(k + 1, updF f ((loop.getD k stp0).rule, (loop.getD k stp0).process) true), sI, ⟨by dsimp only; omega, hf.up (by omega)⟩, by dsimp only; omega⟩
 have hk' : k = loop.length := by omega
 rw [hk', List.take_length] at hf
 clear hk hk' g1
 (refine oP (pairsF p s hp hs) ?_; conv => whnf)
 have hmem : ∀ j, j < (prA (s.n - s.f).toNat p.rules.length).length → (fairB p s b loop → freeB p s b loop ((prA (s.n - s.f).toNat p.rules.length).getD j (0, 0)).1 ((prA (s.n - s.f).toNat p.rules.length).getD j (0, 0)).2) := fun j hj h => fairB_at h (getD_memA (0, 0) hj)
 have hall : (∀ j, j < (prA (s.n - s.f).toNat p.rules.length).length → freeB p s b loop ((prA (s.n - s.f).toNat p.rules.length).getD j (0, 0)).1 ((prA (s.n - s.f).toNat p.rules.length).getD j (0, 0)).2) → fairB p s b loop := fun h => fairB_all fun a ha => by
  obtain ⟨j, hj, rfl⟩ := mem_getDA (0, 0) ha
  exact h j hj
 generalize prA (s.n - s.f).toNat p.rules.length = A at hal hmem hall
 refine WPc.loopF tt_ok mx_ok (fun j : Nat => j ≤ A.length ∧ ∀ i, i < j → freeB p s b loop (A.getD i (0, 0)).1 (A.getD i (0, 0)).2) (fun j => [(35, .int .i64 (j : Int))]) (fun _ => [(17, .map kyP Value.bool f)]) (fun j => A.length - j) 0 ⟨Nat.zero_le _, fun i hi => by omega⟩ ?_; conv => whnf
 refine ⟨sI, ?_⟩
 rintro j ⟨hj, ha⟩
 conv => whnf
 refine cmpI ?_ ?_ <;> (intro g2; conv => whnf)
 case refine_2 => exact ⟨dec_t (hall fun i hi => ha i (by omega)), rfl⟩
 have hmj := hmem j (by omega)
 refine nI ?_
 conv => whnf
 rw [tN]
 have hnx : freeB p s b loop (A.getD j (0, 0)).1 (A.getD j (0, 0)).2 → ∀ i, i < j + 1 → freeB p s b loop (A.getD i (0, 0)).1 (A.getD i (0, 0)).2 := fun h i hi => by
  by_cases e : i = j
  ·subst e; exact h
  ·exact ha i (by omega)
 generalize A.getD j (0, 0) = a at hmj hnx
 refine lookI keyPair a rfl (fun t ht => ?_) (fun hn => ?_)
 ·obtain ⟨rfl, x, hx, hxa⟩ := hf.yes a t ht
  subst hxa
  conv => whnf
  repeat' ((first|refine nI ?_|refine aI ?_|refine tI ?_|refine fI ?_|fail);conv => whnf)
  exact ⟨j + 1, sI, ⟨by omega, hnx (.inl ⟨x, hx, rfl, rfl⟩)⟩, by dsimp only; omega⟩
 have hnt : ¬ ∃ x ∈ loop, x.rule = a.1 ∧ x.process = a.2 := by
  rintro ⟨x, hx, h1, h2⟩
  exact hf.no a hn x hx (Prod.ext h1 h2)
 conv => whnf
 refine WPc.loopF tt_ok mx_ok (fun y : Nat × Bool => y.1 ≤ b.length ∧ (y.2 = true ↔ ∀ i, i < y.1 → fcB p s (b.getD i cfg0) a.1 a.2)) (fun y => [(44, .int .i64 (y.1 : Int)), (14, .bool y.2)]) (fun _ => [(13, .box 173 (encK a)), (17, .map kyP Value.bool f)]) (fun y => b.length - y.1) (0, true) ⟨Nat.zero_le _, by simp⟩ ?_; conv => whnf
 refine ⟨sI, ?_⟩
 rintro ⟨k, t⟩ ⟨hk, hy⟩
 dsimp only at hk hy
 conv => whnf
 refine cmpI ?_ ?_ <;> (intro g3; conv => whnf)
 ·refine nI ?_
  conv => whnf
  rw [tN]
  have hR := hb k (by omega)
  generalize hd : b.getD k cfg0 = d at hR ⊢
  cases t with
  |false =>
   refine dI ?_
   conv => whnf
   repeat' ((first|refine nI ?_|refine aI ?_|refine tI ?_|refine fI ?_|fail);conv => whnf)
   exact ⟨(k + 1, false), sI, ⟨by dsimp only; omega, ⟨fun h => (by cases h), fun h => hy.2 fun i hi => h i (Nat.lt_succ_of_lt hi)⟩⟩, by dsimp only; omega⟩
  |true =>
   refine dI ?_
   conv => whnf
   (refine oC (seeF p s d hR.wide) ?_; conv => whnf)
   refine dD (forcedV p s d a.1 a.2 hR) (fun _ => ?_) (fun _ => ?_) <;> (conv => whnf)
   ·rename_i h4
    repeat' ((first|refine nI ?_|refine aI ?_|refine tI ?_|refine fI ?_|fail);conv => whnf)
    exact ⟨(k + 1, true), sI, ⟨by dsimp only; omega, ⟨fun _ i hi => by
     by_cases e : i = k
     ·subst e; rw [hd]; exact h4
     ·exact hy.1 rfl i (by omega), fun _ => rfl⟩⟩, by dsimp only; omega⟩
   ·rename_i h4
    repeat' ((first|refine nI ?_|refine aI ?_|refine tI ?_|refine fI ?_|fail);conv => whnf)
    exact ⟨(k + 1, false), sI, ⟨by dsimp only; omega, ⟨fun h => (by cases h), fun h => absurd (by have := h k (Nat.lt_succ_self k); rwa [hd] at this) h4⟩⟩, by dsimp only; omega⟩
 ·have hkb : k = b.length := by omega
  subst hkb
  cases t with
  |true =>
   conv => whnf
   refine ⟨dec_f fun h => ?_, rfl⟩
   rcases hmj h with hx | ⟨d, hdb, hnf⟩
   ·exact hnt hx
   ·obtain ⟨i, hi, rfl⟩ := mem_getDA cfg0 hdb
    exact hnf (hy.1 rfl i hi)
  |false =>
   conv => whnf
   repeat' ((first|refine nI ?_|refine aI ?_|refine tI ?_|refine fI ?_|fail);conv => whnf)
   have hfree : ∃ d ∈ b, ¬ fcB p s d a.1 a.2 := Classical.byContradiction fun hno => by
    have := hy.2 fun i hi => Classical.byContradiction fun hnf => hno ⟨_, getD_memA cfg0 hi, hnf⟩
    cases this
   exact ⟨j + 1, sI, ⟨by omega, hnx (.inr hfree)⟩, by dsimp only; omega⟩
theorem cmpC_same {a b : Cfg} (h : cmpC a b = 0) : a = b := by
 have hz := orL_zero h
 have e1 := cmpL_eq (hz (cmpL a.shape b.shape) (by simp))
 have e2 := cmpL_eq (hz (cmpL a.states b.states) (by simp))
 have e3 := cmpL_eq (hz (cmpL a.sent b.sent) (by simp))
 have e4 := cmpL_eq (hz (cmpL a.faulty b.faulty) (by simp))
 have e5 := hz (cmpZ a.correct b.correct) (by simp)
 have e6 := hz (cmpZ a.value b.value) (by simp)
 have e5' : a.correct = b.correct := by unfold cmpZ at e5; (repeat' split at e5) <;> omega
 have e6' : a.value = b.value := by unfold cmpZ at e6; (repeat' split at e6) <;> omega
 obtain ⟨a1, a2, a3, a4, a5, a6⟩ := a
 obtain ⟨b1, b2, b3, b4, b5, b6⟩ := b
 simp only at e1 e2 e3 e4 e5' e6'
 rw [e1, e2, e3, e4, e5', e6']
noncomputable instance decLas (p : Pro) (q : Prp) (s : Siz) (l : Las) : Decidable (lasB p q s (rchB q) l) := Classical.propDecidable _
theorem lasB_iff {p : Pro} {q : Prp} {s : Siz} {R : Cfg → Prop} {l : Las} (h1 : sizQ p q s = 0) (h2 : q.kind = 2) (h3 : isI p q s l.start) (h4 : runOk p s l.start (l.pre ++ l.loop)) :
  lasB p q s R l ↔ ((trs p (midL p l) l.loop).getD l.loop.length cfg0 = midL p l ∧ (∀ d ∈ trs p l.start (l.pre ++ l.loop), ¬ R d) ∧ fairB p s (trs p (midL p l) l.loop) l.loop) := by
 have h5 := runOk_app.1 h4
 constructor
 ·rintro ⟨_, _, _, _, a, b⟩
  refine ⟨b.back, fun d hd => ?_, b.free⟩
  rw [trs_app, List.mem_append] at hd
  rcases hd with hd | hd
  ·exact a d hd
  ·exact b.not d (List.mem_cons_of_mem _ hd)
 ·rintro ⟨a, b, c⟩
  refine ⟨h1, h2, h3, h5.1, fun d hd => b d (by rw [trs_app]; exact List.mem_append_left _ hd), ⟨h5.2, a, fun d hd => ?_, c⟩⟩
  rcases List.mem_cons.1 hd with rfl | hd
  ·refine b _ ?_
   rw [trs_app]
   refine List.mem_append_left _ (getD_memA cfg0 ?_)
   rw [trs_len]; omega
  ·exact b d (by rw [trs_app]; exact List.mem_append_right _ hd)
theorem IsLassoF (p : Pro) (q : Prp) (s : Siz) (l : Las) (hp : ¬ bigP p) (hq : ¬ bigQ q) (hw : wideB l.start = false) (hl1 : l.pre.length ≤ 400) (hl2 : l.loop.length ≤ 400) : PSpec Tryz.prog 56 [.agg (encP p), .agg (encQ q), .agg (encZ s), .agg (encLs l)] (fun u => u = .bool (decide (lasB p q s (rchB q) l))) := by
 refine PSpec.intro tt_ok mx_ok Tryz.func56 rfl (by decide) ?_; (conv => whnf)
 refine boxP rfl ?_
 conv => whnf
 refine boxP rfl ?_
 conv => whnf
 refine boxP rfl ?_
 conv => whnf
 refine boxP rfl ?_
 conv => whnf
 (refine oP (checkAllF p q s hp hq) ?_; conv => whnf)
 refine cmpI ?_ ?_ <;> (intro h1; conv => whnf)
 ·exact ⟨dec_f (fun h => h1 h.1), rfl⟩
 refine cmpI ?_ ?_ <;> (intro h2; conv => whnf)
 ·exact ⟨dec_f (fun h => h2 h.2.1), rfl⟩
 have h1' : sizQ p q s = 0 := by omega
 have h2' : q.kind = 2 := by omega
 have hz := sizQ_ok h1'
 refine dC (isInitialF p q s l.start hp hq hw hz.1 hz.2) (fun _ => ?_) (fun _ => ?_) <;> (conv => whnf)
 case refine_2 =>
  rename_i h3
  exact ⟨dec_f (fun h => h3 h.2.2.1), rfl⟩
 rename_i h3
 have hR := rdy_of hp hw hz.2 h3.1
 have hA := replayF p s l.start (l.pre ++ l.loop) hR (by rw [List.length_append]; omega)
 refine drawF (by decide +kernel) ?_
 conv => whnf
 refine nI ?_
 conv => whnf
 refine appI _ rfl (by dsimp only; omega) ?_
 conv => whnf
 refine Spec.hand 39 rfl ?_
 by_cases h4 : runOk p s l.start (l.pre ++ l.loop)
 case neg =>
  obtain ⟨e, he, hr⟩ := rp_no (acc := [l.start]) h4
  rw [hr] at hA
  (refine oP (hA) ?_; conv => whnf)
  refine cmpT he ?_
  conv => whnf
  exact ⟨dec_f (fun h => h4 (runOk_app.2 ⟨h.2.2.2.1, h.2.2.2.2.2.run⟩)), rfl⟩
 have hI := lasB_iff (R := rchB q) h1' h2' h3 h4
 rw [rp_ok h4] at hA
 have hA' : PSpec Tryz.prog 85 [.agg (encP p), .agg (encZ s), .agg (encC l.start), .sl stp0 encX (l.pre ++ l.loop)] (fun u => u = rpA (trs p l.start (l.pre ++ l.loop)) 0) := hA
 have hlen := trs_len p l.start (l.pre ++ l.loop)
 have hrdy := trs_rdy hR h4
 have hdrop : (trs p l.start (l.pre ++ l.loop)).drop l.pre.length = trs p (midL p l) l.loop := trs_drop l.pre l.loop l.start
 have hlen2 := trs_len p (midL p l) l.loop
 have hall : (∀ d ∈ trs p l.start (l.pre ++ l.loop), ¬ rchB q d) ↔ ∀ k, k < (trs p l.start (l.pre ++ l.loop)).length → ¬ rchB q ((trs p l.start (l.pre ++ l.loop)).getD k cfg0) := by
  constructor
  ·exact fun h k hk => h _ (getD_memA cfg0 hk)
  ·intro h d hd
   obtain ⟨k, hk, rfl⟩ := mem_getDA cfg0 hd
   exact h k hk
 have hrdy2 : ∀ k, k < (trs p (midL p l) l.loop).length → Rdy p s ((trs p (midL p l) l.loop).getD k cfg0) := by
  intro k hk
  rw [← hdrop, gD, List.getElem?_drop, ← gD]
  refine hrdy (l.pre.length + k) ?_
  rw [List.length_append]; omega
 have hmid : (trs p (midL p l) l.loop).getD 0 cfg0 = midL p l := rfl
 rw [List.length_append] at hlen
 rw [List.length_append] at hrdy
 generalize trs p l.start (l.pre ++ l.loop) = A at hA' hlen hrdy hdrop hall hI
 generalize trs p (midL p l) l.loop = B at hdrop hlen2 hrdy2 hmid hI
 (refine oP (hA') ?_; conv => whnf)
 refine fI ?_
 conv => whnf
 refine nI ?_
 rw [tN, hdrop]
 conv => whnf
 refine dI ?_
 conv => whnf
 refine nI ?_
 conv => whnf
 refine aI ?_
 conv => whnf
 refine nI ?_
 conv => whnf
 have hw0 := (hrdy2 0 (by omega)).wide
 rw [show ((B.length : Int) - 1).toNat = l.loop.length by omega]
 (refine oC (compareC (B.getD 0 cfg0) (B.getD l.loop.length cfg0) hw0) ?_; conv => whnf)
 refine cmpI ?_ ?_ <;> (intro h5; conv => whnf)
 ·exact ⟨dec_f (fun h => h5 (by rw [(hI.1 h).1, hmid, cmpC_self])), rfl⟩
 have h5' : B.getD l.loop.length cfg0 = midL p l := by rw [← hmid]; exact (cmpC_same (by omega)).symm
 refine WPc.loopF tt_ok mx_ok (fun k : Nat => k ≤ A.length ∧ ∀ j, j < k → ¬ rchB q (A.getD j cfg0)) (fun k => [(69, .int .i64 (k : Int)), (9, .top), (36, .top), (39, .top), (45, .top)]) (fun _ => []) (fun k => A.length - k) 0 ⟨by omega, fun j hj => by omega⟩ ?_; conv => whnf
 refine ⟨sI, ?_⟩
 rintro k ⟨hk, ha⟩
 conv => whnf
 refine cmpI ?_ ?_ <;> (intro g1; conv => whnf)
 ·have hRk := hrdy k (by omega)
  refine nI ?_
  conv => whnf
  rw [tN]
  refine dC (reachedF q (A.getD k cfg0) hq hRk.wide hRk.plain.2) (fun _ => ?_) (fun _ => ?_) <;> (conv => whnf)
  ·rename_i h6
   exact ⟨dec_f (fun h => hall.1 (hI.1 h).2.1 k (by omega) h6), rfl⟩
  ·rename_i h6
   repeat' ((first|refine nI ?_|refine aI ?_|refine tI ?_|refine fI ?_|fail);conv => whnf)
   refine ⟨k + 1, sI, ⟨by omega, fun j hj => ?_⟩, by dsimp only; omega⟩
   by_cases e : j = k
   ·subst e; exact h6
   ·exact ha j (by omega)
 have hnr := hall.2 fun j hj => ha j (by omega)
 refine dC (fairLoopF p s B l.loop hp hR.sz hrdy2 (by omega) (by omega)) (fun _ => ?_) (fun _ => ?_) <;> (conv => whnf)
 ·rename_i h7; exact ⟨dec_t (hI.2 ⟨h5', hnr, h7⟩), rfl⟩
 ·rename_i h7; exact ⟨dec_f (fun h => h7 (hI.1 h).2.2), rfl⟩
theorem IsLassoR (p : Pro) (q : Prp) (s : Siz) (l : Las) (hp : ¬ bigP p) (hq : ¬ bigQ q) (hw : wideB l.start = false) (hl1 : l.pre.length ≤ 400) (hl2 : l.loop.length ≤ 400) : PSpec Tryz.prog 57 [.agg (encP p), .agg (encQ q), .agg (encZ s), .agg (encLs l)] (fun u => u = .bool (decide (lasB p q s (rchB q) l))) := by
 have hle := bigP_le hp
 have hws := wide_le hw
 refine PSpec.intro tt_ok mx_ok Tryz.func57 rfl (by decide) ?_; (conv => whnf)
 refine boxP rfl ?_
 conv => whnf
 refine boxP rfl ?_
 conv => whnf
 refine boxP rfl ?_
 conv => whnf
 refine boxP rfl ?_
 conv => whnf
 (refine oP (sizedPropertyR p q s hp hq) ?_; conv => whnf)
 refine cmpI ?_ ?_ <;> (intro h1; conv => whnf)
 ·exact ⟨dec_f (fun h => h1 h.1), rfl⟩
 refine cmpI ?_ ?_ <;> (intro h2; conv => whnf)
 ·exact ⟨dec_f (fun h => h2 h.2.1), rfl⟩
 have h1' : sizQ p q s = 0 := by omega
 have h2' : q.kind = 2 := by omega
 have hz := sizQ_ok h1'
 refine dC (isInitialR p q s l.start hp hq hw hz.2) (fun _ => ?_) (fun _ => ?_) <;> (conv => whnf)
 case refine_2 =>
  rename_i h3
  exact ⟨dec_f (fun h => h3 h.2.2.1), rfl⟩
 rename_i h3
 have hR := rdy_of hp hw hz.2 h3.1
 have hA := replayR p s l.start l.pre hR (by omega)
 by_cases h4 : runOk p s l.start l.pre
 case neg =>
  obtain ⟨e, he, hr⟩ := rp_no (acc := [l.start]) h4
  rw [hr] at hA
  (refine oP (hA) ?_; conv => whnf)
  refine cmpT he ?_
  conv => whnf
  exact ⟨dec_f (fun h => h4 h.2.2.2.1), rfl⟩
 rw [rp_ok h4] at hA
 have hA' : PSpec Tryz.prog 86 [.agg (encP p), .agg (encZ s), .agg (encC l.start), .sl stp0 encX l.pre] (fun u => u = rpA (trs p l.start l.pre) 0) := hA
 have hlen := trs_len p l.start l.pre
 have hrdy := trs_rdy hR h4
 have hRm : Rdy p s (midL p l) := hrdy l.pre.length (Nat.le_refl _)
 have hB := replayR p s (midL p l) l.loop hRm (by omega)
 have hmid : (trs p l.start l.pre).getD l.pre.length cfg0 = midL p l := rfl
 have hlas : ∀ B, B = trs p (midL p l) l.loop → (lasB p q s (rchB q) l ↔ (∀ d ∈ trs p l.start l.pre, ¬ rchB q d) ∧ runOk p s (midL p l) l.loop ∧ B.getD l.loop.length cfg0 = midL p l ∧ (∀ d ∈ B, ¬ rchB q d) ∧ fairB p s B l.loop) := by
  rintro B rfl
  exact ⟨fun h => ⟨h.2.2.2.2.1, h.2.2.2.2.2.run, h.2.2.2.2.2.back, h.2.2.2.2.2.not, h.2.2.2.2.2.free⟩, fun h => ⟨h1', h2', h3, h4, h.1, ⟨h.2.1, h.2.2.1, h.2.2.2.1, h.2.2.2.2⟩⟩⟩
 have hrdy' : ∀ k, k < (trs p l.start l.pre).length → Rdy p s ((trs p l.start l.pre).getD k cfg0) := fun k hk => hrdy k (by omega)
 generalize trs p l.start l.pre = A at hA' hlen hrdy' hmid hlas
 clear hrdy hA
 (refine oP (hA') ?_; conv => whnf)
 refine fI ?_
 conv => whnf
 refine dI ?_
 conv => whnf
 refine aI ?_
 conv => whnf
 refine nI ?_
 rw [show ((A.length : Int) - 1).toNat = l.pre.length by omega, hmid]
 conv => whnf
 by_cases h5 : runOk p s (midL p l) l.loop
 case neg =>
  obtain ⟨e, he, hr⟩ := rp_no (acc := [midL p l]) h5
  rw [hr] at hB
  (refine oC (hB) ?_; conv => whnf)
  refine dI ?_
  conv => whnf
  refine cmpT he ?_
  conv => whnf
  exact ⟨dec_f (fun h => h5 h.2.2.2.2.2.run), rfl⟩
 rw [rp_ok h5] at hB
 have hB' : PSpec Tryz.prog 86 [.agg (encP p), .agg (encZ s), .agg (encC (midL p l)), .sl stp0 encX l.loop] (fun u => u = rpA (trs p (midL p l) l.loop) 0) := hB
 have hlen2 := trs_len p (midL p l) l.loop
 have hrdy2 : ∀ k, k < (trs p (midL p l) l.loop).length → Rdy p s ((trs p (midL p l) l.loop).getD k cfg0) := fun k hk => trs_rdy hRm h5 k (by omega)
 have hmid2 : (trs p (midL p l) l.loop).getD 0 cfg0 = midL p l := rfl
 have hI := hlas _ rfl
 generalize trs p (midL p l) l.loop = B at hB' hlen2 hrdy2 hmid2 hI
 clear hB hlas
 (refine oC (hB') ?_; conv => whnf)
 refine dI ?_
 conv => whnf
 refine fI ?_
 conv => whnf
 refine nI ?_
 conv => whnf
 refine aI ?_
 conv => whnf
 refine nI ?_
 conv => whnf
 have hw0 := (hrdy2 0 (by omega)).wide
 rw [show ((B.length : Int) - 1).toNat = l.loop.length by omega]
 (refine oC (compareR (B.getD 0 cfg0) (B.getD l.loop.length cfg0) hw0) ?_; conv => whnf)
 refine cmpI ?_ ?_ <;> (intro h6; conv => whnf)
 ·exact ⟨dec_f (fun h => h6 (by rw [(hI.1 h).2.2.1, hmid2, cmpC_self])), rfl⟩
 have h6' : B.getD l.loop.length cfg0 = midL p l := by rw [← hmid2]; exact (cmpC_same (by omega)).symm
 refine WPc.loopF tt_ok mx_ok (fun k : Nat => k ≤ A.length ∧ ∀ j, j < k → ¬ rchB q (A.getD j cfg0)) (fun k => [(12, .int .i64 (k : Int))]) (fun _ => []) (fun k => A.length - k) 0 ⟨by omega, fun j hj => by omega⟩ ?_; conv => whnf
 refine ⟨sI, ?_⟩
 rintro k ⟨hk, ha⟩
 conv => whnf
 refine cmpI ?_ ?_ <;> (intro g1; conv => whnf)
 ·have hRk := hrdy' k (by omega)
  refine dI ?_
  conv => whnf
  refine nI ?_
  conv => whnf
  rw [tN]
  refine dD (reachedR q (A.getD k cfg0) hq hRk.wide hRk.plain.2) (fun _ => ?_) (fun _ => ?_) <;> (conv => whnf)
  ·rename_i h7
   exact ⟨dec_f (fun h => (hI.1 h).1 _ (getD_memA cfg0 (show k < A.length by omega)) h7), rfl⟩
  ·rename_i h7
   repeat' ((first|refine nI ?_|refine aI ?_|refine tI ?_|refine fI ?_|fail);conv => whnf)
   refine ⟨k + 1, sI, ⟨by omega, fun j hj => ?_⟩, by dsimp only; omega⟩
   by_cases e : j = k
   ·subst e; exact h7
   ·exact ha j (by omega)
 have hnA : ∀ d ∈ A, ¬ rchB q d := fun d hd => by
  obtain ⟨j, hj, rfl⟩ := mem_getDA cfg0 hd
  exact ha j (by omega)
 clear ha hk g1
 refine WPc.loopF tt_ok mx_ok (fun k : Nat => k ≤ B.length ∧ ∀ j, j < k → ¬ rchB q (B.getD j cfg0)) (fun k => [(13, .int .i64 (k : Int))]) (fun _ => []) (fun k => B.length - k) 0 ⟨by omega, fun j hj => by omega⟩ ?_; conv => whnf
 refine ⟨sI, ?_⟩
 rintro k ⟨hk, ha⟩
 conv => whnf
 refine cmpI ?_ ?_ <;> (intro g1; conv => whnf)
 ·have hRk := hrdy2 k (by omega)
  refine dI ?_
  conv => whnf
  refine nI ?_
  conv => whnf
  rw [tN]
  refine dD (reachedR q (B.getD k cfg0) hq hRk.wide hRk.plain.2) (fun _ => ?_) (fun _ => ?_) <;> (conv => whnf)
  ·rename_i h7
   exact ⟨dec_f (fun h => (hI.1 h).2.2.2.1 _ (getD_memA cfg0 (show k < B.length by omega)) h7), rfl⟩
  ·rename_i h7
   repeat' ((first|refine nI ?_|refine aI ?_|refine tI ?_|refine fI ?_|fail);conv => whnf)
   refine ⟨k + 1, sI, ⟨by omega, fun j hj => ?_⟩, by dsimp only; omega⟩
   by_cases e : j = k
   ·subst e; exact h7
   ·exact ha j (by omega)
 have hnB : ∀ d ∈ B, ¬ rchB q d := fun d hd => by
  obtain ⟨j, hj, rfl⟩ := mem_getDA cfg0 hd
  exact ha j (by omega)
 clear ha hk g1
 have hlow : ∀ r i : Int, s.n - s.f ≤ i → freeB p s B l.loop r i := fun r i hi => .inr ⟨_, getD_memA cfg0 (show 0 < B.length by omega), fun h => by
  have := h.1
  rw [(hrdy2 0 (by omega)).vc.cor] at this
  omega⟩
 have hsl : s.n - s.f ≤ l.start.states.length := by
  have h8 := hR.plain.2.2
  rw [h3.1.cor] at h8
  exact h8
 refine WPc.loopF tt_ok mx_ok (fun r : Nat => r ≤ p.rules.length ∧ ∀ r' : Nat, r' < r → ∀ i : Nat, i < l.start.states.length → freeB p s B l.loop r' i) (fun r => [(14, .int .i64 (r : Int))]) (fun _ => []) (fun r => p.rules.length - r) 0 ⟨by omega, fun j hj => by omega⟩ ?_; conv => whnf
 refine ⟨sI, ?_⟩
 rintro r ⟨hr, hfr⟩
 conv => whnf
 refine cmpI ?_ ?_ <;> (intro g1; conv => whnf)
 case refine_2 =>
  exact ⟨dec_t (hI.2 ⟨hnA, h5, h6', hnB, fun r' i hr' hi => hfr r' (by omega) i (by omega)⟩), rfl⟩
 refine WPc.loopF tt_ok mx_ok (fun i : Nat => i ≤ l.start.states.length ∧ ∀ i' : Nat, i' < i → freeB p s B l.loop r i') (fun i => [(15, .int .i64 (i : Int))]) (fun _ => []) (fun i => l.start.states.length - i) 0 ⟨by omega, fun j hj => by omega⟩ ?_; conv => whnf
 refine ⟨sI, ?_⟩
 rintro i ⟨hi, hfi⟩
 conv => whnf
 refine cmpI ?_ ?_ <;> (intro g2; conv => whnf)
 case refine_2 =>
  repeat' ((first|refine nI ?_|refine aI ?_|refine tI ?_|refine fI ?_|fail);conv => whnf)
  refine ⟨r + 1, sI, ⟨by omega, fun r' hr' i' hi' => ?_⟩, by dsimp only; omega⟩
  by_cases e : r' = r
  ·subst e; exact hfi i' (by omega)
  ·exact hfr r' (by omega) i' hi'
 refine WPc.loopF tt_ok mx_ok (fun y : Nat × Bool => y.1 ≤ B.length ∧ (y.2 = true ↔ ∃ j, j < y.1 ∧ ¬ fcB p s (B.getD j cfg0) r i)) (fun y => [(17, .int .i64 (y.1 : Int)), (16, .bool y.2)]) (fun _ => []) (fun y => B.length - y.1) (0, false) ⟨Nat.zero_le _, by simp⟩ ?_; conv => whnf
 refine ⟨sI, ?_⟩
 rintro ⟨k, t⟩ ⟨hk, hy⟩
 dsimp only at hk hy ⊢
 conv => whnf
 refine cmpI ?_ ?_ <;> (intro g3; conv => whnf)
 ·cases t with
  |true =>
   obtain ⟨j, hj, hnf⟩ := hy.1 rfl
   refine dI ?_
   conv => whnf
   repeat' ((first|refine nI ?_|refine aI ?_|refine tI ?_|refine fI ?_|fail);conv => whnf)
   exact ⟨(k + 1, true), sI, ⟨by dsimp only; omega, ⟨fun _ => ⟨j, Nat.lt_succ_of_lt hj, hnf⟩, fun _ => rfl⟩⟩, by dsimp only; omega⟩
  |false =>
   have hRk := hrdy2 k (by omega)
   have hno : ∀ j, j < k → fcB p s (B.getD j cfg0) r i := fun j hj => Classical.byContradiction fun hnf => by
    have := hy.2 ⟨j, hj, hnf⟩
    cases this
   refine dI ?_
   conv => whnf
   refine nI ?_
   conv => whnf
   rw [tN]
   refine dD (isForcedR p s (B.getD k cfg0) r i hRk) (fun _ => ?_) (fun _ => ?_) <;> (conv => whnf)
   ·rename_i h8
    repeat' ((first|refine nI ?_|refine aI ?_|refine tI ?_|refine fI ?_|fail);conv => whnf)
    refine ⟨(k + 1, false), sI, ⟨by dsimp only; omega, ⟨fun h => (by cases h), fun ⟨j, hj, hnf⟩ => absurd ?_ hnf⟩⟩, by dsimp only; omega⟩
    by_cases e : j = k
    ·subst e; exact h8
    ·exact hno j (by dsimp only at hj; omega)
   ·rename_i h8
    repeat' ((first|refine nI ?_|refine aI ?_|refine tI ?_|refine fI ?_|fail);conv => whnf)
    exact ⟨(k + 1, true), sI, ⟨by dsimp only; omega, ⟨fun _ => ⟨k, Nat.lt_succ_self k, h8⟩, fun _ => rfl⟩⟩, by dsimp only; omega⟩
 have hkB : k = B.length := by omega
 subst hkB
 refine WPc.loopF tt_ok mx_ok (fun z : Nat × Bool => z.1 ≤ l.loop.length ∧ (z.2 = true ↔ (t = true ∨ ∃ j, j < z.1 ∧ (l.loop.getD j stp0).rule = r ∧ (l.loop.getD j stp0).process = i))) (fun z => [(18, .int .i64 (z.1 : Int)), (16, .bool z.2)]) (fun _ => []) (fun z => l.loop.length - z.1) (0, t) ⟨Nat.zero_le _, by simp⟩ ?_; conv => whnf
 refine ⟨sI, ?_⟩
 rintro ⟨k, u⟩ ⟨hk, hz⟩
 dsimp only at hk hz ⊢
 conv => whnf
 refine cmpI ?_ ?_ <;> (intro g4; conv => whnf)
 ·cases u with
  |true =>
   have hzt := hz.1 rfl
   repeat' ((first|refine nI ?_|refine aI ?_|refine tI ?_|refine fI ?_|fail);conv => whnf)
   refine ⟨(k + 1, true), sI, ⟨by dsimp only; omega, ⟨fun _ => hzt.imp id fun ⟨j, hj, hh⟩ => ⟨j, Nat.lt_succ_of_lt hj, hh⟩, fun _ => rfl⟩⟩, by dsimp only; omega⟩
  |false =>
   have hzf : ¬ (t = true ∨ ∃ j, j < k ∧ (l.loop.getD j stp0).rule = r ∧ (l.loop.getD j stp0).process = i) := fun h => by
    have := hz.2 h
    cases this
   have hup : ((l.loop.getD k stp0).rule = r ∧ (l.loop.getD k stp0).process = i) → (t = true ∨ ∃ j, j < k + 1 ∧ (l.loop.getD j stp0).rule = r ∧ (l.loop.getD j stp0).process = i) := fun h => .inr ⟨k, Nat.lt_succ_self k, h⟩
   have hdn : ¬ ((l.loop.getD k stp0).rule = r ∧ (l.loop.getD k stp0).process = i) → ¬ (t = true ∨ ∃ j, j < k + 1 ∧ (l.loop.getD j stp0).rule = r ∧ (l.loop.getD j stp0).process = i) := by
    rintro h (h' | ⟨j, hj, hh⟩)
    ·exact hzf (.inl h')
    ·by_cases e : j = k
     ·subst e; exact h hh
     ·exact hzf (.inr ⟨j, by omega, hh⟩)
   refine nI ?_
   conv => whnf
   rw [tN]
   refine cmpI ?_ ?_ <;> (intro g5; conv => whnf)
   ·refine nI ?_
    conv => whnf
    rw [tN]
    refine cmpI ?_ ?_ <;> (intro g6; conv => whnf)
    ·repeat' ((first|refine nI ?_|refine aI ?_|refine tI ?_|refine fI ?_|fail);conv => whnf)
     exact ⟨(k + 1, true), sI, ⟨by dsimp only; omega, ⟨fun _ => hup ⟨g5, g6⟩, fun _ => rfl⟩⟩, by dsimp only; omega⟩
    ·repeat' ((first|refine nI ?_|refine aI ?_|refine tI ?_|refine fI ?_|fail);conv => whnf)
     exact ⟨(k + 1, false), sI, ⟨by dsimp only; omega, ⟨fun h => (by cases h), fun h => absurd h (hdn fun hh => g6 hh.2)⟩⟩, by dsimp only; omega⟩
   ·repeat' ((first|refine nI ?_|refine aI ?_|refine tI ?_|refine fI ?_|fail);conv => whnf)
    exact ⟨(k + 1, false), sI, ⟨by dsimp only; omega, ⟨fun h => (by cases h), fun h => absurd h (hdn fun hh => g5 hh.1)⟩⟩, by dsimp only; omega⟩
 have hkl : k = l.loop.length := by omega
 subst hkl
 have hfree : u = true ↔ freeB p s B l.loop r i := by
  rw [hz, hy]
  constructor
  ·rintro (⟨j, hj, hnf⟩ | ⟨j, hj, hh⟩)
   ·exact .inr ⟨_, getD_memA cfg0 hj, hnf⟩
   ·exact .inl ⟨_, getD_memA stp0 hj, hh⟩
  ·rintro (⟨x, hx, hh⟩ | ⟨d, hd, hnf⟩)
   ·obtain ⟨j, hj, rfl⟩ := mem_getDA stp0 hx
    exact .inr ⟨j, hj, hh⟩
   ·obtain ⟨j, hj, rfl⟩ := mem_getDA cfg0 hd
    exact .inl ⟨j, hj, hnf⟩
 cases u with
 |true =>
  conv => whnf
  repeat' ((first|refine nI ?_|refine aI ?_|refine tI ?_|refine fI ?_|fail);conv => whnf)
  refine ⟨i + 1, sI, ⟨by omega, fun i' hi' => ?_⟩, by dsimp only; omega⟩
  by_cases e : i' = i
  ·subst e; exact hfree.1 rfl
  ·exact hfi i' (by omega)
 |false =>
  conv => whnf
  refine ⟨dec_f fun h => ?_, rfl⟩
  have hnf : ¬ freeB p s B l.loop r i := fun hf => by
   have := hfree.2 hf
   cases this
  by_cases hlo : (i : Int) < s.n - s.f
  ·exact hnf ((hI.1 h).2.2.2.2 r i (by omega) hlo)
  ·exact hnf (hlow r i (by omega))
theorem lawLassos (p : Pro) (q : Prp) (s : Siz) (l : Las) : PSpec Tryz.prog 16 [.agg (encCs p q s), .agg (encLs l)] (fun u => u = .bool true) := by
 refine PSpec.intro tt_ok mx_ok Tryz.func16 rfl (by decide) ?_; (conv => whnf)
 refine boxP rfl ?_
 conv => whnf
 refine boxP rfl ?_
 conv => whnf
 refine dC (bigCaseF p q s) (fun _ => ?_) (fun _ => ?_) <;> (conv => whnf)
 ·(refine oP (knownF) ?_; conv => whnf)
  exact ⟨rfl, rfl⟩
 rename_i hb
 have hp : ¬ bigP p := fun h => hb (.inl h)
 have hq : ¬ bigQ q := fun h => hb (.inr h)
 have hW := wideF l.start
 cases hw : wideB l.start with
 |true =>
  rw [hw] at hW
  (refine oP (hW) ?_; conv => whnf)
  (refine oP (knownF) ?_; conv => whnf)
  exact ⟨rfl, rfl⟩
 |false =>
  rw [hw] at hW
  (refine oP (hW) ?_; conv => whnf)
  refine cmpI ?_ ?_ <;> (intro h1; conv => whnf)
  ·(refine oP (knownF) ?_; conv => whnf)
   exact ⟨rfl, rfl⟩
  refine cmpI ?_ ?_ <;> (intro h2; conv => whnf)
  ·(refine oP (knownF) ?_; conv => whnf)
   exact ⟨rfl, rfl⟩
  have b1 := IsLassoF p q s l hp hq hw (by omega) (by omega)
  have b2 := IsLassoR p q s l hp hq hw (by omega) (by omega)
  generalize decide (lasB p q s (rchB q) l) = b at b1 b2
  refine dI ?_
  conv => whnf
  cases b
  all_goals
   (refine oC (b1) ?_; conv => whnf)
   (refine oC (b2) ?_; conv => whnf)
   (refine oC (knownF) ?_; conv => whnf)
   exact ⟨rfl, rfl⟩
theorem lawLassoTurns (p : Pro) (q : Prp) (s : Siz) (l : Las) : PSpec Tryz.prog 17 [.agg (encCs p q s), .agg (encLs l)] (fun u => u = .bool true) := by
 refine PSpec.intro tt_ok mx_ok Tryz.func17 rfl (by decide) ?_; (conv => whnf)
 refine boxP rfl ?_
 conv => whnf
 refine boxP rfl ?_
 conv => whnf
 refine dC (bigCaseF p q s) (fun _ => ?_) (fun _ => ?_) <;> (conv => whnf)
 ·(refine oP (knownF) ?_; conv => whnf)
  exact ⟨rfl, rfl⟩
 rename_i hb
 have hp : ¬ bigP p := fun h => hb (.inl h)
 have hq : ¬ bigQ q := fun h => hb (.inr h)
 have hW := wideF l.start
 cases hw : wideB l.start with
 |true =>
  rw [hw] at hW
  (refine oP (hW) ?_; conv => whnf)
  (refine oP (knownF) ?_; conv => whnf)
  exact ⟨rfl, rfl⟩
 |false =>
  rw [hw] at hW
  (refine oP (hW) ?_; conv => whnf)
  refine cmpI ?_ ?_ <;> (intro h1; conv => whnf)
  ·(refine oP (knownF) ?_; conv => whnf)
   exact ⟨rfl, rfl⟩
  refine cmpI ?_ ?_ <;> (intro h2; conv => whnf)
  ·(refine oP (knownF) ?_; conv => whnf)
   exact ⟨rfl, rfl⟩
  have b1 := IsLassoF p q s l hp hq hw (by omega) (by omega)
  refine drawF (by decide +kernel) ?_
  conv => whnf
  refine bldI stp0 encX [] rfl ?_
  conv => whnf
  refine leakN ?_
  conv => whnf
  refine appI _ rfl (by dsimp only [List.length_nil]; omega) ?_
  conv => whnf
  refine appI _ rfl (by simp only [List.length_append, List.length_nil]; omega) ?_
  conv => whnf
  refine drawF (by decide +kernel) ?_
  conv => whnf
  refine bldI stp0 encX [] rfl ?_
  conv => whnf
  refine leakN ?_
  conv => whnf
  refine appI _ rfl (by dsimp only [List.length_nil]; omega) ?_
  conv => whnf
  refine appI _ rfl (by simp only [List.length_append, List.length_nil]; omega) ?_
  conv => whnf
  refine dC (b1) (fun _ => ?_) (fun _ => ?_) <;> (conv => whnf)
  case refine_2 =>
   (refine oP (knownF) ?_; conv => whnf)
   exact ⟨rfl, rfl⟩
  rename_i hl
  have b2 := IsLassoF p q s ⟨l.start, l.pre ++ l.loop, l.loop⟩ hp hq hw (by rw [List.length_append]; omega) (by dsimp only; omega)
  have b3 := IsLassoF p q s ⟨l.start, l.pre, l.loop ++ l.loop⟩ hp hq hw (by dsimp only; omega) (by rw [List.length_append]; omega)
  rw [decide_eq_true (lasB_longer hl)] at b2
  rw [decide_eq_true (lasB_twice hl)] at b3
  (refine Spec.borrow (n := 5) (b2) rfl (by rintro _ rfl; rfl) ?_; rintro _ rfl; conv => whnf)
  (refine Spec.borrow (n := 5) (b3) rfl (by rintro _ rfl; rfl) ?_; rintro _ rfl; conv => whnf)
  (refine oP (knownF) ?_; conv => whnf)
  exact ⟨rfl, rfl⟩
def samB (c : Cfg) (a b : Nat) : Prop := (a < c.states.length ∧ b < c.states.length) ∧ ((a : Int) < c.correct ↔ (b : Int) < c.correct)
theorem swI_cor {c : Cfg} {a b : Nat} (h : samB c a b) (i : Int) : swI a b i < c.correct ↔ i < c.correct := by
 have h2 := h.2
 unfold swI
 (repeat' split) <;> omega
theorem sw_ap2 {c : Cfg} {r : Rul} {x : Stp} {a b : Nat} (h : samB c a b) : apB (swC c a b) r (swX x a b) ↔ apB c r x := by
 have l1 := swI_cor h x.process
 unfold apB
 rw [show (swX x a b).process = swI a b x.process from rfl, show (swC c a b).correct = c.correct from rfl, show (swC c a b).sent = c.sent from rfl, show (swC c a b).faulty = c.faulty from rfl]
 by_cases h : x.process < c.correct
 ·rw [if_pos h, if_pos (l1.2 h)]
 ·rw [if_neg h, if_neg (fun g => h (l1.1 g))]
theorem sw_apC2 {c : Cfg} {r : Rul} {x : Stp} {a b : Nat} (h : samB c a b) : apC (swC c a b) r (swX x a b) = swC (apC c r x) a b := by
 have ha' := h.1.1
 have hb' := h.1.2
 have l1 := swI_cor h x.process
 have e0 : (swC c a b).states.length = c.states.length := swL_len _ _ _
 have e1 : stN (swC c a b) r (swX x a b) = swL (stN c r x) a b := by
  symm
  refine st_of (by rw [swL_len, stN_len, e0]) fun j hj => ?_
  rw [e0] at hj
  rw [swL_get (by rw [stN_len]; exact ha') (by rw [stN_len]; exact hb'), sw_st ha' hb']
  exact getD_map_range _ _ _ (swG_lt ha' hb' hj)
 unfold apC
 rw [e1]
 unfold swC
 dsimp only
 congr 1
 ·by_cases h : x.process < c.correct
  ·rw [if_pos h, if_pos (show (swX x a b).process < c.correct from l1.2 h)]
  ·rw [if_neg h, if_neg (show ¬ (swX x a b).process < c.correct from fun g => h (l1.1 g))]
 ·by_cases h : x.process < c.correct
  ·rw [if_pos h, if_pos (show (swX x a b).process < c.correct from l1.2 h)]
  ·rw [if_neg h, if_neg (show ¬ (swX x a b).process < c.correct from fun g => h (l1.1 g))]
theorem swL_swL {l : List Int} {a b : Nat} (ha : a < l.length) (hb : b < l.length) : swL (swL l a b) a b = l := by
 have hl : (swL (swL l a b) a b).length = l.length := by rw [swL_len, swL_len]
 apply List.ext_getElem?
 intro j
 by_cases hj : j < l.length
 ·have e : (swL (swL l a b) a b).getD j 0 = l.getD j 0 := by
   rw [swL_get (by rw [swL_len]; exact ha) (by rw [swL_len]; exact hb), swL_get ha hb, swG_swG]
  rw [gD, gD, gL (by omega), gL hj] at e
  rw [gL (by omega), gL hj]
  exact congrArg some e
 ·rw [List.getElem?_eq_none (by omega), List.getElem?_eq_none (by omega)]
theorem swC_swC {c : Cfg} {a b : Nat} (h : samB c a b) : swC (swC c a b) a b = c := by
 unfold swC
 dsimp only
 rw [swL_swL h.1.1 h.1.2]
theorem samB_sw {c : Cfg} {a b : Nat} (h : samB c a b) : samB (swC c a b) a b := by
 unfold samB swC
 dsimp only
 rw [swL_len]
 exact h
inductive Eqv : Cfg → Cfg → Prop
 |refl (c : Cfg) : Eqv c c
 |step {c d : Cfg} (a b : Nat) (h : samB c a b) (k : Eqv (swC c a b) d) : Eqv c d
theorem Eqv.trans {c d e : Cfg} (h : Eqv c d) (k : Eqv d e) : Eqv c e := by
 induction h with
 |refl => exact k
 |step a b h _ ih => exact .step a b h (ih k)
theorem Eqv.symm {c d : Cfg} (h : Eqv c d) : Eqv d c := by
 induction h with
 |refl => exact .refl _
 |@step c d a b h _ ih => exact ih.trans (.step a b (samB_sw h) (by rw [swC_swC h]; exact .refl _))
theorem Eqv.sim {p : Pro} {s : Siz} {c d : Cfg} (h : Eqv c d) (ht : p.topology = 1) : ∀ {x : Stp}, Rdy p s c → enB p s c x false → Rdy p s d ∧ ∃ y, enB p s d y false ∧ rulX p y = rulX p x ∧ (apB d (rulX p x) y ↔ apB c (rulX p x) x) ∧ Eqv (apC c (rulX p x) x) (apC d (rulX p x) y) := by
 induction h with
 |refl c => exact fun hr he => ⟨hr, _, he, rfl, Iff.rfl, .refl _⟩
 |@step c d a b h _ ih =>
  intro x hr he
  have hr' := sw_rdy hr h.1.1 h.1.2
  have he' := (sw_en hr ht h.1.1 h.1.2).2 he
  obtain ⟨h1, y, h2, h3, h4, h5⟩ := ih hr' he'
  have e : rulX p (swX x a b) = rulX p x := rfl
  rw [e] at h3 h4 h5
  refine ⟨h1, y, h2, h3, h4.trans (sw_ap2 h), ?_⟩
  rw [sw_apC2 h] at h5
  refine .step a b ?_ h5
  unfold samB apC
  dsimp only
  rw [stN_len]
  exact h
inductive SwL (lo hi : Nat) : List Int → List Int → Prop
 |refl (l : List Int) : SwL lo hi l l
 |step {l m : List Int} (a b : Nat) (ha : lo ≤ a ∧ a < hi) (hb : lo ≤ b ∧ b < hi) (hl : hi ≤ l.length) (k : SwL lo hi (swL l a b) m) : SwL lo hi l m
theorem SwL.trans {lo hi : Nat} {l m n : List Int} (h : SwL lo hi l m) (k : SwL lo hi m n) : SwL lo hi l n := by
 induction h with
 |refl => exact k
 |step a b ha hb hl _ ih => exact .step a b ha hb hl (ih k)
theorem SwL.mono {lo hi lo' hi' : Nat} {l m : List Int} (h : SwL lo hi l m) (h1 : lo' ≤ lo) (h2 : hi ≤ hi') (h3 : hi' ≤ l.length) : SwL lo' hi' l m := by
 induction h with
 |refl => exact .refl _
 |step a b ha hb hl _ ih => exact .step a b ⟨by omega, by omega⟩ ⟨by omega, by omega⟩ h3 (ih (by rw [swL_len]; exact h3))
theorem swL_mid (pre l : List Int) (x y : Int) : swL (pre ++ (y :: x :: l)) pre.length (pre.length + 1) = pre ++ (x :: y :: l) := by
 have e1 : (pre ++ (y :: x :: l)).getD (pre.length + 1) 0 = x := by simp
 have e2 : (pre ++ (y :: x :: l)).getD pre.length 0 = y := by simp
 unfold swL
 rw [e1, e2, List.set_append_right _ _ (Nat.le_refl _), List.set_append_right _ _ (by omega)]
 simp
theorem SwL.perm {l m : List Int} (h : l.Perm m) : ∀ pre post : List Int, SwL pre.length (pre.length + l.length) (pre ++ (l ++ post)) (pre ++ (m ++ post)) := by
 induction h with
 |nil => exact fun _ _ => .refl _
 |cons x _ ih =>
  intro pre post
  have := ih (pre ++ [x]) post
  simp only [List.append_assoc, List.singleton_append, List.length_append, List.length_cons, List.length_nil] at this
  simp only [List.cons_append, List.length_cons]
  exact this.mono (by omega) (by omega) (by simp)
 |swap x y l =>
  intro pre post
  refine .step pre.length (pre.length + 1) ⟨by omega, by simp⟩ ⟨by omega, by simp⟩ (by simp) ?_
  rw [List.cons_append, List.cons_append, swL_mid]
  exact .refl _
 |trans h1 _ ih1 ih2 =>
  intro pre post
  have := ih2 pre post
  rw [← h1.length_eq] at this
  exact (ih1 pre post).trans this
def withSt (c : Cfg) (l : List Int) : Cfg := ⟨c.shape, l, c.correct, c.sent, c.faulty, c.value⟩
theorem SwL.eqv {lo hi : Nat} {l m : List Int} (h : SwL lo hi l m) : ∀ c : Cfg, c.states = l → (∀ a b : Nat, lo ≤ a ∧ a < hi → lo ≤ b ∧ b < hi → ((a : Int) < c.correct ↔ (b : Int) < c.correct)) → Eqv c (withSt c m) := by
 induction h with
 |refl l => rintro c rfl _; exact .refl _
 |@step l m a b ha hb hl _ ih =>
  rintro c rfl hc
  exact .step a b ⟨⟨by omega, by omega⟩, hc a b ha hb⟩ (ih (swC c a b) rfl hc)
theorem eqv_can {p : Pro} {c : Cfg} (ht : p.topology = 1) (h0 : 0 ≤ c.correct) (h1 : c.correct ≤ c.states.length) : Eqv c (canC p c) := by
 have hlt : (c.states.take c.correct.toNat).length = c.correct.toNat := by rw [List.length_take]; omega
 have hld : (c.states.drop c.correct.toNat).length = c.states.length - c.correct.toNat := List.length_drop
 have p1 := (SwL.perm (srtI_perm (c.states.take c.correct.toNat)).symm [] (c.states.drop c.correct.toNat)).eqv c (by simp) (fun a b ha hb => by
  simp only [List.length_nil, Nat.zero_add, hlt] at ha hb
  omega)
 have p2 := (SwL.perm (srtI_perm (c.states.drop c.correct.toNat)).symm (srtI (c.states.take c.correct.toNat)) []).eqv (withSt c (srtI (c.states.take c.correct.toNat) ++ c.states.drop c.correct.toNat)) (by simp [withSt]) (fun a b ha hb => by
  rw [srtI_len, hlt, hld] at ha hb
  show ((a : Int) < c.correct ↔ (b : Int) < c.correct)
  omega)
 rw [canC_yes c ht]
 have e1 : withSt c ([] ++ (srtI (c.states.take c.correct.toNat) ++ c.states.drop c.correct.toNat)) = withSt c (srtI (c.states.take c.correct.toNat) ++ c.states.drop c.correct.toNat) := rfl
 rw [e1] at p1
 have e2 : withSt (withSt c (srtI (c.states.take c.correct.toNat) ++ c.states.drop c.correct.toNat)) (srtI (c.states.take c.correct.toNat) ++ (srtI (c.states.drop c.correct.toNat) ++ [])) = ⟨c.shape, srtI (c.states.take c.correct.toNat) ++ srtI (c.states.drop c.correct.toNat), c.correct, c.sent, c.faulty, c.value⟩ := by
  rw [List.append_nil]; rfl
 rw [e2] at p2
 exact p1.trans p2
theorem swL_perm {l : List Int} {a b : Nat} (ha : a < l.length) (hb : b < l.length) : (swL l a b).Perm l := by
 have e1 : l.getD a 0 = l[a] := by rw [gD, gL ha]; rfl
 have e2 : l.getD b 0 = l[b] := by rw [gD, gL hb]; rfl
 unfold swL
 rw [e1, e2]
 exact List.set_set_perm ha hb
theorem srtI_eq {l m : List Int} (h : l.Perm m) : srtI l = srtI m := srtI_of ((srtI_perm l).trans h) (srtI_up l)
theorem swL_take {l : List Int} {a b k : Nat} (ha : a < l.length) (hb : b < l.length) (h : a < k ↔ b < k) : ((swL l a b).take k).Perm (l.take k) := by
 by_cases h1 : a < k
 ·have h2 := h.1 h1
  have e : (swL l a b).take k = swL (l.take k) a b := by
   unfold swL
   rw [List.take_set, List.take_set, getD_take h1, getD_take h2]
  rw [e]
  exact swL_perm (by rw [List.length_take]; omega) (by rw [List.length_take]; omega)
 ·have e : (swL l a b).take k = l.take k := by
   unfold swL
   rw [List.take_set, List.take_set, List.set_eq_of_length_le (by rw [List.length_set, List.length_take]; omega), List.set_eq_of_length_le (by rw [List.length_take]; omega)]
  rw [e]
theorem swL_drop {l : List Int} {a b k : Nat} (ha : a < l.length) (hb : b < l.length) (h : a < k ↔ b < k) : ((swL l a b).drop k).Perm (l.drop k) := by
 have h1 := swL_take ha hb h
 have h2 := swL_perm ha hb
 have h3 : ((swL l a b).take k ++ (swL l a b).drop k).Perm ((swL l a b).take k ++ l.drop k) := by
  rw [List.take_append_drop]
  refine h2.trans ?_
  have := h1.symm.append_right (l.drop k)
  rwa [List.take_append_drop] at this
 exact (List.perm_append_left_iff _).1 h3
theorem can_sw {p : Pro} {c : Cfg} {a b : Nat} (h : samB c a b) (h0 : 0 ≤ c.correct) : canC p (swC c a b) = canC p c ∨ p.topology ≠ 1 := by
 by_cases ht : p.topology = 1
 ·left
  have hk : a < c.correct.toNat ↔ b < c.correct.toNat := by have := h.2; omega
  rw [canC_yes _ ht, canC_yes _ ht]
  have e1 : srtI ((swC c a b).states.take (swC c a b).correct.toNat) = srtI (c.states.take c.correct.toNat) := srtI_eq (swL_take h.1.1 h.1.2 hk)
  have e2 : srtI ((swC c a b).states.drop (swC c a b).correct.toNat) = srtI (c.states.drop c.correct.toNat) := srtI_eq (swL_drop h.1.1 h.1.2 hk)
  rw [e1, e2]
  rfl
 ·exact .inr ht
theorem Eqv.can {p : Pro} {c d : Cfg} (h : Eqv c d) (ht : p.topology = 1) : 0 ≤ c.correct → canC p c = canC p d := by
 induction h with
 |refl => exact fun _ => rfl
 |@step c d a b h _ ih =>
  intro h0
  rcases can_sw (p := p) h h0 with e | e
  ·exact e.symm.trans (ih h0)
  ·exact absurd ht e
theorem can_sim {p : Pro} {s : Siz} {c d : Cfg} {x : Stp} (hc : Rdy p s c) (hd : Rdy p s d) (hcd : canC p c = canC p d) (he : enB p s c x false) :
  ∃ y, enB p s d y false ∧ rulX p y = rulX p x ∧ (apB d (rulX p x) y ↔ apB c (rulX p x) x) ∧ canC p (apC c (rulX p x) x) = canC p (apC d (rulX p x) y) := by
 by_cases ht : p.topology = 1
 ·have h1 := hc.plain
  have h2 := hd.plain
  have he1 := eqv_can ht h1.2.1 h1.2.2
  have he2 := eqv_can ht h2.2.1 h2.2.2
  rw [hcd] at he1
  obtain ⟨_, y, k1, k2, k3, k4⟩ := (he1.trans he2.symm).sim ht hc he
  exact ⟨y, k1, k2, k3, k4.can ht h1.2.1⟩
 ·rw [canC_no c ht, canC_no d ht] at hcd
  subst hcd
  exact ⟨x, he, rfl, Iff.rfl, rfl⟩
def by1 (n : Int) : Int := n % 256
def by2 (n : Int) : Int := n / 256 % 256
def by3 (n : Int) : Int := n / 65536 % 256
def keyI (l : List Int) : List Int := (l.length : Int) % 256 :: l.flatMap fun n => [by1 n, by2 n, by3 n]
def keyZ (c : Cfg) : List Int := keyI c.shape ++ (keyI c.states ++ (keyI c.sent ++ (keyI c.faulty ++ keyI [c.correct, c.value])))
abbrev strZ (l : List Int) : ByteArray := strOfNums l
def keyB (c : Cfg) : ByteArray := strZ (keyZ c)
structure Org where
 c : Cfg
 src : Int
 st : Stp
def org0 : Org := ⟨cfg0, 0, stp0⟩
def nmC (p : Pro) (ex : Bool) (c : Cfg) : Cfg := match ex with
 |true => c
 |false => canC p c
structure Sys (p : Pro) (q : Prp) (s : Siz) : Prop where
 hp : ¬ bigP p
 hq : ¬ bigQ q
 hz : sizQ p q s = 0
theorem Sys.siz {p : Pro} {q : Prp} {s : Siz} (S : Sys p q s) : propE p q = 0 ∧ sizeE p s = 0 := sizQ_ok S.hz
theorem vc_wide {p : Pro} {s : Siz} {c : Cfg} (hp : ¬ bigP p) (hz : sizeE p s = 0) (h : VC p s c) : wideB c = false := by
 have hle := bigP_le hp
 have h2 := sizeE_ok hz
 have hl := h.len
 have e1 : c.states.length ≤ 100 := by
  unfold modN at hl
  split at hl <;> omega
 have e2 : c.shape.length ≤ 100 := by
  by_cases ht : p.topology = 4
  ·have := (h.tre ht).1; omega
  ·have := h.non ht; omega
 have e3 := h.snl
 have e4 := h.fal
 unfold wideB
 simp only [Bool.or_eq_false_iff, decide_eq_false_iff_not]
 refine ⟨⟨⟨?_, ?_⟩, ?_⟩, ?_⟩ <;> omega
theorem Sys.rdy {p : Pro} {q : Prp} {s : Siz} (S : Sys p q s) {c : Cfg} (h : isI p q s c) : Rdy p s c :=
 rdy_of S.hp (vc_wide S.hp S.siz.2 h.1) S.siz.2 h.1
theorem nm_sim {p : Pro} {s : Siz} {ex : Bool} {c d : Cfg} {x : Stp} (hc : Rdy p s c) (hd : Rdy p s d) (hcd : nmC p ex c = nmC p ex d) (he : enB p s c x false) :
  ∃ y, enB p s d y false ∧ rulX p y = rulX p x ∧ (apB d (rulX p x) y ↔ apB c (rulX p x) x) ∧ nmC p ex (apC c (rulX p x) x) = nmC p ex (apC d (rulX p x) y) := by
 cases ex with
 |false => exact can_sim hc hd hcd he
 |true =>
  have e : c = d := hcd
  subst e
  exact ⟨x, he, rfl, Iff.rfl, rfl⟩
inductive Wn (p : Pro) (q : Prp) (s : Siz) : Nat → Cfg → Prop
 |ini {c : Cfg} (h : isI p q s c) : Wn p q s 0 c
 |stp {n : Nat} {c : Cfg} (x : Stp) (h : Wn p q s n c) (he : enB p s c x false) (ha : apB c (rulX p x) x) : Wn p q s (n + 1) (apC c (rulX p x) x)
section
variable {p : Pro} {q : Prp} {s : Siz}
theorem Wn.rdy (S : Sys p q s) {n : Nat} {c : Cfg} (h : Wn p q s n c) : Rdy p s c := by
 induction h with
 |ini h => exact S.rdy h
 |stp x _ he ha ih => exact ih.next he ha
theorem Wn.of_run {c : Cfg} {l : List Stp} : ∀ {n : Nat}, Wn p q s n c → runOk p s c l → Wn p q s (n + l.length) ((trs p c l).getD l.length cfg0) := by
 induction l generalizing c with
 |nil => exact fun h _ => h
 |cons x l ih =>
  intro n h hr
  have := ih (Wn.stp x h hr.1 hr.2.1) hr.2.2
  have e : n + 1 + l.length = n + (x :: l).length := by simp; omega
  rw [e] at this
  exact this
variable {ex : Bool}
def Rp (p : Pro) (q : Prp) (s : Siz) (ex : Bool) (c : Cfg) : Prop := Rdy p s c ∧ ∃ n d, Wn p q s n d ∧ nmC p ex d = nmC p ex c
theorem Wn.rp (S : Sys p q s) {n : Nat} {c : Cfg} (h : Wn p q s n c) : Rp p q s ex c := ⟨h.rdy S, n, c, h, rfl⟩
theorem Rp.next (S : Sys p q s) {c : Cfg} {x : Stp} (h : Rp p q s ex c) (he : enB p s c x false) (ha : apB c (rulX p x) x) : Rp p q s ex (apC c (rulX p x) x) := by
 obtain ⟨hr, n, d, hd, hdc⟩ := h
 obtain ⟨y, k1, k2, k3, k4⟩ := nm_sim hr (hd.rdy S) hdc.symm he
 refine ⟨hr.next he ha, n + 1, apC d (rulX p y) y, hd.stp y k1 ?_, ?_⟩
 ·rw [k2]; exact k3.2 ha
 ·rw [k2]; exact k4.symm
structure Clo (p : Pro) (q : Prp) (s : Siz) (ex : Bool) (L : List Cfg) : Prop where
 rep : ∀ c ∈ L, Rp p q s ex c
 dis : (L.map (nmC p ex)).Nodup
 ini : ∀ c, isI p q s c → nmC p ex c ∈ L.map (nmC p ex)
 stp : ∀ c ∈ L, ∀ x, enB p s c x false → apB c (rulX p x) x ∧ nmC p ex (apC c (rulX p x) x) ∈ L.map (nmC p ex)
theorem Clo.at (S : Sys p q s) {L : List Cfg} (h : Clo p q s ex L) {c : Cfg} (hc : Rdy p s c) (hk : nmC p ex c ∈ L.map (nmC p ex)) {x : Stp} (he : enB p s c x false) : apB c (rulX p x) x ∧ nmC p ex (apC c (rulX p x) x) ∈ L.map (nmC p ex) := by
 obtain ⟨d, hd, hdc⟩ := List.mem_map.1 hk
 obtain ⟨y, k1, k2, k3, k4⟩ := nm_sim hc (h.rep d hd).1 hdc.symm he
 have := h.stp d hd y k1
 rw [k2] at this
 exact ⟨k3.1 this.1, by rw [k4]; exact this.2⟩
theorem Clo.all (S : Sys p q s) {L : List Cfg} (h : Clo p q s ex L) {n : Nat} {c : Cfg} (hc : Wn p q s n c) : nmC p ex c ∈ L.map (nmC p ex) := by
 induction hc with
 |ini hi => exact h.ini _ hi
 |stp x hw he _ ih => exact (h.at S (hw.rdy S) ih he).2
theorem Clo.ok (S : Sys p q s) {L : List Cfg} (h : Clo p q s ex L) {c : Cfg} (hc : Rp p q s ex c) {x : Stp} (he : enB p s c x false) : apB c (rulX p x) x := by
 obtain ⟨hr, n, d, hd, hdc⟩ := hc
 refine (h.at S hr ?_ he).1
 rw [← hdc]
 exact h.all S hd
theorem Clo.mem (S : Sys p q s) {L : List Cfg} (h : Clo p q s ex L) (k : Cfg) : k ∈ L.map (nmC p ex) ↔ ∃ n c, Wn p q s n c ∧ nmC p ex c = k := by
 constructor
 ·intro hk
  obtain ⟨c, hc, rfl⟩ := List.mem_map.1 hk
  obtain ⟨_, n, d, h1, h2⟩ := h.rep c hc
  exact ⟨n, d, h1, h2⟩
 ·rintro ⟨n, c, h1, rfl⟩
  exact h.all S h1
theorem Clo.perm (S : Sys p q s) {L M : List Cfg} (h : Clo p q s ex L) (k : Clo p q s ex M) : (L.map (nmC p ex)).Perm (M.map (nmC p ex)) :=
 (List.perm_ext_iff_of_nodup h.dis k.dis).2 fun a => (h.mem S a).trans (k.mem S a).symm
def ascC (l : List Cfg) : Prop := l.Pairwise fun a b => cmpC a b < 0
def KD (p : Pro) (q : Prp) (s : Siz) (n : Nat) (k : Cfg) : Prop := ∃ m c, m ≤ n ∧ Wn p q s m c ∧ canC p c = k
def BadAt (p : Pro) (q : Prp) (s : Siz) (n : Nat) : Prop := ∃ c, Wn p q s n c ∧ badB p q c
def OverAt (p : Pro) (q : Prp) (s : Siz) (n : Nat) : Prop := ∃ c x, Wn p q s n c ∧ enB p s c x false ∧ ¬ apB c (rulX p x) x
def FewAt (p : Pro) (q : Prp) (s : Siz) (n : Nat) : Prop := ∃ L : List Cfg, L.length ≤ 4000 ∧ ∀ k, KD p q s n k → k ∈ L
def EndAt (p : Pro) (q : Prp) (s : Siz) (n : Nat) : Prop := ∀ k, KD p q s n k → ∃ m, m < n ∧ KD p q s m k
def OnAt (p : Pro) (q : Prp) (s : Siz) (n : Nat) : Prop := ¬ EndAt p q s n ∧ ¬ BadAt p q s n ∧ FewAt p q s n ∧ ¬ OverAt p q s n
structure ShP (p : Pro) (q : Prp) (s : Siz) (n : Nat) (is : Bool) (e : Int) : Prop where
 on : ∀ m, m < n → OnAt p q s m
 out : (EndAt p q s n ∧ is = false ∧ e = 0) ∨ (¬ EndAt p q s n ∧ BadAt p q s n ∧ is = true ∧ e = 0) ∨ (¬ EndAt p q s n ∧ ¬ BadAt p q s n ∧ (¬ FewAt p q s n ∨ OverAt p q s n) ∧ is = false ∧ e = 4)
theorem ShP.not_on {n : Nat} {is : Bool} {e : Int} (h : ShP p q s n is e) : ¬ OnAt p q s n := by
 rintro ⟨h1, h2, h3, h4⟩
 rcases h.out with ⟨a, _⟩ | ⟨_, a, _⟩ | ⟨_, _, a | a, _⟩
 ·exact h1 a
 ·exact h2 a
 ·exact a h3
 ·exact h4 a
theorem ShP.one {n n' : Nat} {is is' : Bool} {e e' : Int} (h : ShP p q s n is e) (k : ShP p q s n' is' e') : n = n' ∧ is = is' ∧ e = e' := by
 have hn : n = n' := by
  rcases Nat.lt_trichotomy n n' with g | g | g
  ·exact absurd (k.on n g) h.not_on
  ·exact g
  ·exact absurd (h.on n' g) k.not_on
 subst hn
 refine ⟨rfl, ?_⟩
 rcases h.out with ⟨a1, a2, a3⟩ | ⟨a1, a2, a3, a4⟩ | ⟨a1, a2, _, a3, a4⟩ <;> rcases k.out with ⟨b1, b2, b3⟩ | ⟨b1, b2, b3, b4⟩ | ⟨b1, b2, _, b3, b4⟩ <;> first
  |exact absurd a1 b1
  |exact absurd b1 a1
  |exact absurd a2 b2
  |exact absurd b2 a2
  |(subst_vars; exact ⟨rfl, rfl⟩)
theorem KD.mono {n m : Nat} (h : n ≤ m) {k : Cfg} (hk : KD p q s n k) : KD p q s m k := by
 obtain ⟨a, c, h1, h2, h3⟩ := hk
 exact ⟨a, c, by omega, h2, h3⟩
theorem KD.step (S : Sys p q s) {n : Nat} {c : Cfg} {x : Stp} (hc : Rdy p s c) (hk : KD p q s n (canC p c)) (he : enB p s c x false) (ha : apB c (rulX p x) x) : KD p q s (n + 1) (canC p (apC c (rulX p x) x)) := by
 obtain ⟨m, d, h1, h2, h3⟩ := hk
 obtain ⟨y, k1, k2, k3, k4⟩ := can_sim hc (h2.rdy S) h3.symm he
 refine ⟨m + 1, apC d (rulX p y) y, by omega, h2.stp y k1 (by rw [k2]; exact k3.2 ha), ?_⟩
 rw [k2]; exact k4.symm
theorem bad_can {c d : Cfg} (hc : Rdy p s c) (hd : Rdy p s d) (h : canC p c = canC p d) : badB p q c ↔ badB p q d := by
 rw [← canC_bad p q hc.plain.2.2, ← canC_bad p q hd.plain.2.2, h]
theorem EndAt.all (S : Sys p q s) {n : Nat} (h : EndAt p q s n) {m : Nat} {c : Cfg} (hw : Wn p q s m c) : ∃ k, k < n ∧ KD p q s k (canC p c) := by
 induction hw with
 |ini hi => exact h _ ⟨0, _, Nat.zero_le _, .ini hi, rfl⟩
 |@stp m c x hw he ha ih =>
  obtain ⟨k, hk, hd⟩ := ih
  exact h _ ((hd.step S (hw.rdy S) he ha).mono (by omega))
theorem ShP.least (S : Sys p q s) {n : Nat} {is : Bool} {e : Int} (h : ShP p q s n is e) (he : e = 0) {m : Nat} (hb : BadAt p q s m) : is = true ∧ n ≤ m := by
 have low : ¬ m < n := fun hm => (h.on m hm).2.1 hb
 rcases h.out with ⟨a1, _, _⟩ | ⟨_, _, a3, _⟩ | ⟨_, _, _, _, a4⟩
 ·exfalso
  obtain ⟨c, hw, hbad⟩ := hb
  obtain ⟨k, hk, j, d, hj, hwd, hcd⟩ := a1.all S hw
  exact (h.on j (by omega)).2.1 ⟨d, hwd, (bad_can (hwd.rdy S) (hw.rdy S) hcd).2 hbad⟩
 ·exact ⟨a3, by omega⟩
 ·omega
end
end Go.Proofs.YtjnjieabdjpfnaaGreatDoor
namespace Go.Proofs.YtjnjieabdjpfnaaGreatDoor
set_option maxRecDepth 100000
def smlI (l : List Int) : Prop := l.length < 256 ∧ ∀ x ∈ l, 0 ≤ x ∧ x < 16777216
structure SmlC (c : Cfg) : Prop where
 shape : smlI c.shape
 states : smlI c.states
 sent : smlI c.sent
 faulty : smlI c.faulty
 nums : smlI [c.correct, c.value]
theorem SmlC.can {p : Pro} {c : Cfg} (h : SmlC c) : SmlC (canC p c) := by
 refine ⟨by rw [canC_shape]; exact h.shape, ⟨by rw [canC_len]; exact h.states.1, fun x hx => h.states.2 x ((canC_perm p c).mem_iff.1 hx)⟩, by rw [canC_sent]; exact h.sent, by rw [canC_faulty]; exact h.faulty, ?_⟩
 rw [canC_correct, canC_value]; exact h.nums
structure SrI (p : Pro) (ex : Bool) (l : List Org) (f : ByteArray → Option Int) : Prop where
 at_ : ∀ i, i < l.length → f (keyB (nmC p ex (l.getD i org0).c)) = some (i : Int)
 of_ : ∀ k v, f k = some v → ∃ i, i < l.length ∧ v = (i : Int) ∧ keyB (nmC p ex (l.getD i org0).c) = k
theorem SrI.nil (p : Pro) (ex : Bool) : SrI p ex [] (fun _ => none) := ⟨fun i hi => by simp at hi, fun k v h => by cases h⟩
theorem getD_snoc {α : Type} {l : List α} {a d : α} {i : Nat} : (l ++ [a]).getD i d = if i < l.length then l.getD i d else if i = l.length then a else d := by
 rw [gD, gD]
 by_cases h : i < l.length
 ·rw [if_pos h, List.getElem?_append_left h]
 ·rw [if_neg h, List.getElem?_append_right (by omega)]
  by_cases h2 : i = l.length
  ·rw [if_pos h2, h2, Nat.sub_self]; rfl
  ·rw [if_neg h2, List.getElem?_eq_none (by simp; omega)]; rfl
theorem SrI.add {p : Pro} {ex : Bool} {l : List Org} {f : ByteArray → Option Int} (h : SrI p ex l f) {o : Org} (hn : f (keyB (nmC p ex o.c)) = none) : SrI p ex (l ++ [o]) (updF f (keyB (nmC p ex o.c)) (l.length : Int)) := by
 refine ⟨fun i hi => ?_, fun k v hv => ?_⟩
 ·rw [List.length_append, List.length_singleton] at hi
  rw [getD_snoc]
  by_cases h1 : i < l.length
  ·rw [if_pos h1]
   have := h.at_ i h1
   rw [updF_ne, this]
   intro e
   rw [e, hn] at this
   cases this
  ·rw [if_neg h1, if_pos (by omega), updF_same, show i = l.length by omega]
 ·by_cases e : k = keyB (nmC p ex o.c)
  ·subst e
   rw [updF_same] at hv
   cases hv
   exact ⟨l.length, by simp, rfl, by rw [getD_snoc, if_neg (by omega), if_pos rfl]⟩
  ·rw [updF_ne _ _ e] at hv
   obtain ⟨i, hi, h1, h2⟩ := h.of_ k v hv
   exact ⟨i, by simp; omega, h1, by rw [getD_snoc, if_pos hi]; exact h2⟩
def svL (l : List Cfg) (o : List Int) : List Cfg := o.map fun i => l.getD i.toNat cfg0
structure SpI (l : List Cfg) (o : List Int) : Prop where
 len : o.length = l.length
 rng : ∀ i ∈ o, 0 ≤ i ∧ i < l.length
 all : ∀ i : Nat, i < l.length → (i : Int) ∈ o
 asc : ascC (svL l o)
theorem SpI.nil : SpI [] [] := ⟨rfl, fun i hi => absurd hi List.not_mem_nil, fun i hi => absurd hi (Nat.not_lt_zero _), List.Pairwise.nil⟩
theorem svL_len (l : List Cfg) (o : List Int) : (svL l o).length = o.length := by simp [svL]
theorem svL_get (l : List Cfg) {o : List Int} {j : Nat} (h : j < o.length) : (svL l o).getD j cfg0 = l.getD (o.getD j 0).toNat cfg0 := by
 unfold svL
 rw [gD, List.getElem?_map, gL h]
 have e : o.getD j 0 = o[j] := by rw [gD, gL h]; rfl
 rw [e]; rfl
theorem svL_mem {l : List Cfg} {o : List Int} (h : SpI l o) (c : Cfg) : c ∈ svL l o ↔ c ∈ l := by
 unfold svL
 constructor
 ·intro hc
  obtain ⟨i, hi, rfl⟩ := List.mem_map.1 hc
  have := h.rng i hi
  have hlt : i.toNat < l.length := by omega
  rw [gD, gL hlt]
  exact List.getElem_mem hlt
 ·intro hc
  obtain ⟨i, hi, rfl⟩ := List.getElem_of_mem hc
  refine List.mem_map.2 ⟨(i : Int), h.all i hi, ?_⟩
  rw [tN, gD, gL hi]
  rfl
structure PlP (l : List Cfg) (o : List Int) (c : Cfg) (a : Nat) (is : Bool) : Prop where
 le : a ≤ o.length
 low : ∀ j, j < a → cmpC ((svL l o).getD j cfg0) c < 0
 yes : is = true → a < o.length ∧ cmpC ((svL l o).getD a cfg0) c = 0
 no : is = false → ∀ j, a ≤ j → j < o.length → 0 < cmpC ((svL l o).getD j cfg0) c
theorem PlP.mem {l : List Cfg} {o : List Int} {c : Cfg} {a : Nat} {is : Bool} (h : PlP l o c a is) (hs : SpI l o) : is = true ↔ c ∈ l := by
 constructor
 ·intro hi
  obtain ⟨h1, h2⟩ := h.yes hi
  have e := cmpC_same h2
  rw [← svL_mem hs, ← e]
  exact getD_memA cfg0 (by rw [svL_len]; exact h1)
 ·intro hc
  rw [← svL_mem hs] at hc
  obtain ⟨j, hj, rfl⟩ := mem_getDA cfg0 hc
  rw [svL_len] at hj
  cases is with
  |true => rfl
  |false =>
   exfalso
   by_cases hja : j < a
   ·have := h.low j hja
    rw [cmpC_self] at this; omega
   ·have := h.no rfl j (by omega) hj
    rw [cmpC_self] at this; omega
theorem PlP.at_ {l : List Cfg} {o : List Int} {c : Cfg} {a : Nat} (h : PlP l o c a true) : l.getD (o.getD a 0).toNat cfg0 = c := by
 obtain ⟨h1, h2⟩ := h.yes rfl
 rw [← svL_get l h1]
 exact cmpC_same h2
section
variable {p : Pro} {q : Prp} {s : Siz}
abbrev oAt (l : List Org) (i : Nat) : Org := l.getD i org0
def OrgAt (p : Pro) (q : Prp) (s : Siz) (l : List Org) (i : Nat) : Prop :=
 ((oAt l i).src = -1 ∧ isI p q s (oAt l i).c) ∨ ∃ j : Nat, j < i ∧ (oAt l i).src = (j : Int) ∧ enB p s (oAt l j).c (oAt l i).st false ∧ apB (oAt l j).c (rulX p (oAt l i).st) (oAt l i).st ∧ (oAt l i).c = apC (oAt l j).c (rulX p (oAt l i).st) (oAt l i).st
def OrgI (p : Pro) (q : Prp) (s : Siz) (l : List Org) : Prop := ∀ i, i < l.length → OrgAt p q s l i
theorem oAt_app {l m : List Org} {i : Nat} (h : i < l.length) : oAt (l ++ m) i = oAt l i := by
 unfold oAt
 rw [gD, gD, List.getElem?_append_left h]
theorem oAt_snoc (l : List Org) (o : Org) : oAt (l ++ [o]) l.length = o := by
 unfold oAt
 rw [getD_snoc, if_neg (by omega), if_pos rfl]
theorem OrgAt.app {l m : List Org} {i : Nat} (h : OrgAt p q s l i) (hi : i < l.length) : OrgAt p q s (l ++ m) i := by
 unfold OrgAt at *
 rw [oAt_app hi]
 rcases h with h | ⟨j, hj, h⟩
 ·exact .inl h
 ·refine .inr ⟨j, hj, ?_⟩
  rw [oAt_app (by omega)]
  exact h
theorem OrgI.nil : OrgI p q s [] := fun i hi => by simp at hi
theorem OrgI.ini {l : List Org} (h : OrgI p q s l) {c : Cfg} (hc : isI p q s c) (st : Stp) : OrgI p q s (l ++ [⟨c, -1, st⟩]) := by
 intro i hi
 rw [List.length_append, List.length_singleton] at hi
 by_cases e : i < l.length
 ·exact (h i e).app e
 ·have : i = l.length := by omega
  subst this
  unfold OrgAt
  rw [oAt_snoc]
  exact .inl ⟨rfl, hc⟩
theorem OrgI.stp {l : List Org} (h : OrgI p q s l) {j : Nat} (hj : j < l.length) {x : Stp} (he : enB p s (oAt l j).c x false) (ha : apB (oAt l j).c (rulX p x) x) : OrgI p q s (l ++ [⟨apC (oAt l j).c (rulX p x) x, (j : Int), x⟩]) := by
 intro i hi
 rw [List.length_append, List.length_singleton] at hi
 by_cases e : i < l.length
 ·exact (h i e).app e
 ·have : i = l.length := by omega
  subst this
  unfold OrgAt
  rw [oAt_snoc]
  refine .inr ⟨j, hj, rfl, ?_⟩
  rw [oAt_app hj]
  exact ⟨he, ha, rfl⟩
inductive Chain (l : List Org) : Nat → Nat → List Stp → Prop
 |root {i : Nat} (h : (oAt l i).src = -1) : Chain l i i []
 |step {i j r : Nat} {xs : List Stp} (hj : j < i) (h : (oAt l i).src = (j : Int)) (k : Chain l j r xs) : Chain l i r (xs ++ [(oAt l i).st])
theorem Chain.ex {l : List Org} (h : OrgI p q s l) : ∀ i, i < l.length → ∃ r xs, Chain l i r xs := by
 intro i
 induction i using Nat.strongRecOn with
 |_ i ih =>
  intro hi
  rcases h i hi with h1 | ⟨j, hj, h1, _⟩
  ·exact ⟨i, [], .root h1.1⟩
  ·obtain ⟨r, xs, hc⟩ := ih j hj (by omega)
   exact ⟨r, _, .step hj h1 hc⟩
theorem Chain.run {l : List Org} (h : OrgI p q s l) {i r : Nat} {xs : List Stp} (hc : Chain l i r xs) : i < l.length → isI p q s (oAt l r).c ∧ runOk p s (oAt l r).c xs ∧ (trs p (oAt l r).c xs).getD xs.length cfg0 = (oAt l i).c := by
 induction hc with
 |@root i hs =>
  intro hi
  rcases h i hi with h1 | ⟨j, _, h1, _⟩
  ·exact ⟨h1.2, trivial, rfl⟩
  ·omega
 |@step i j r xs hj hs _ ih =>
  intro hi
  obtain ⟨k1, k2, k3⟩ := ih (by omega)
  rcases h i hi with h1 | ⟨j', _, h1, h2, h3, h4⟩
  ·omega
  ·have : j' = j := by omega
   subst this
   refine ⟨k1, runOk_app.2 ⟨k2, ?_⟩, ?_⟩
   ·rw [k3]; exact ⟨h2, h3, trivial⟩
   ·rw [trs_end, k3, h4]; rfl
theorem Chain.wn {l : List Org} (h : OrgI p q s l) {i r : Nat} {xs : List Stp} (hc : Chain l i r xs) (hi : i < l.length) : Wn p q s xs.length (oAt l i).c := by
 obtain ⟨k1, k2, k3⟩ := hc.run h hi
 have := (Wn.ini k1).of_run k2
 rw [k3, Nat.zero_add] at this
 exact this
theorem Chain.app {l m : List Org} {i r : Nat} {xs : List Stp} (hc : Chain l i r xs) : i < l.length → Chain (l ++ m) i r xs := by
 induction hc with
 |@root i hs => exact fun hi => .root (by rw [oAt_app hi]; exact hs)
 |@step i j r xs hj hs _ ih =>
  intro hi
  have := Chain.step (l := l ++ m) hj (by rw [oAt_app hi]; exact hs) (ih (by omega))
  rw [oAt_app hi] at this
  exact this
theorem Chain.one {l : List Org} {i r r' : Nat} {xs xs' : List Stp} (h : Chain l i r xs) (k : Chain l i r' xs') : r = r' ∧ xs = xs' := by
 induction h generalizing r' xs' with
 |@root i hs =>
  cases k with
  |root _ => exact ⟨rfl, rfl⟩
  |step _ h1 _ => omega
 |@step i j r xs hj hs _ ih =>
  cases k with
  |root h1 => omega
  |@step _ j' _ xs2 _ h1 h2 =>
   have : j' = j := by omega
   subst this
   obtain ⟨e1, e2⟩ := ih h2
   exact ⟨e1, by rw [e2]⟩
end
end Go.Proofs.YtjnjieabdjpfnaaGreatDoor
