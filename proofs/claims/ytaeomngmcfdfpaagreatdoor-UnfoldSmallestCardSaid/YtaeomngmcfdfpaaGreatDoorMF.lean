import Derived.Test.YtaeomngmcfdfpaaGreatDoorME
import Derived.Test.YtaeomngmcfdfpaaGreatDoorMD
import Derived.Test.YtaeomngmcfdfpaaGreatDoorA1
import Derived.Test.YtaeomngmcfdfpaaGreatDoorMA
import Derived.Test.YtaeomngmcfdfpaaGreatDoorM8
set_option linter.unusedVariables false
set_option linter.unusedSimpArgs false
namespace Go.Proofs.YtaeomngmcfdfpaaGreatDoor
set_option maxRecDepth 100000
def rowOg (l : List Org) : Blk := .row 92 org0 encOg l
def mpS (f : ByteArray → Option Int) : Blk := .map Value.string (Value.int .i64) f
def bxS (p : Pro) (s : Siz) (ex : Bool) (ℓ n : Nat) : Blk := .box 88 [.str p.name, .int .i64 p.topology, .sl t0 encT p.states, .sl t0 encT p.messages, .sl t0 encT p.values, .int .i64 p.fault, .sl lin0 encLin p.resilience, .sl 0 encI p.initial, .sl 0 encI p.leader, .sl rul0 encR p.rules, .int .i64 s.n, .int .i64 s.t, .int .i64 s.f, .bool ex, .mp 7002, .row ℓ n 10]
def srM (p : Pro) (s : Siz) (ex : Bool) (l : List Org) (f : ByteArray → Option Int) : List (Nat × Blk) := [(7001, bxS p s ex 7003 l.length), (7002, mpS f), (7003, rowOg l)]
theorem ba_beq (a b : ByteArray) : (a == b) = decide (a = b) := by
 cases a with | mk a =>
 cases b with | mk b =>
 have h : ((ByteArray.mk a == ByteArray.mk b) = true) ↔ a = b := by
  show ((a == b) = true) ↔ a = b
  exact beq_iff_eq
 by_cases e : a = b
 ·subst e; rw [decide_eq_true rfl]; exact h.2 rfl
 ·rw [decide_eq_false (fun hh => e (by injection hh))]
  cases hb : (ByteArray.mk a == ByteArray.mk b) with
  |false => rfl
  |true => exact absurd (h.1 hb) e
theorem keyStr : KeyOk Tryz.prog 9 Value.string := by
 refine KeyOk.now Tryz.underlying9 (fun a b h => by cases h; rfl) ?_ ?_ ?_
 ·intro e k w
  have h4 : ∀ n, (Instr.checkKey e (n + 1) 9 (Value.string k)).run Tryz.prog w = .ok () w := fun n => by
   simp [Instr.checkKey, run_underlying Tryz.underlying9]
  exact h4 9999
 ·intro a b
  refine ⟨decide (a = b), ?_, ?_⟩
  ·simp only [Instr.sameNow, Option.some.injEq]
   exact ba_beq a b
  ·simp
 ·intro k
  have h4 : ∀ n, Instr.sameBits (n + 1) (Value.string k) (Value.string k) = true := fun n => by simp only [Instr.sameBits]; rw [ba_beq]; exact decide_eq_true rfl
  exact h4 9999
theorem nameF (p : Pro) (s : Siz) (ex : Bool) (l : List Org) (f : ByteArray → Option Int) (c : Cfg) (hw : wideB c = false) (hpl : plB p c) :
  Spec Tryz.prog 113 [.ptr 7001 0, .agg (encC c)] (Mem.ofL (srM p s ex l f)) (fun u M => u = .str (keyB (nmC p ex c)) ∧ M = Mem.ofL (srM p s ex l f)) := by
 have hc := wide_le hw
 have hk := keyF c (by omega) (by omega) (by omega) (by omega)
 have hw2 : wideB (canC p c) = false := by rw [canC_wide]; exact hw
 have hc2 := wide_le hw2
 have hk2 := keyF (canC p c) (by omega) (by omega) (by omega) (by omega)
 refine Spec.norm 400 (R := fun u M => u = .str (keyB (nmC p ex c)) ∧ memR (idL (srM p s ex l f)) 400 M (srM p s ex l f)) ?_ ?_
 ·refine Spec.intro tt_ok mx_ok (srM p s ex l f) Tryz.func113 rfl (by decide) ?_
  conv => whnf
  refine boxP rfl ?_
  rw [putD_eq]
  dsimp only [setD, List.set]
  simp only [opsK]
  rw [stepK_eq]
  simp only [gv, opnds, List.map_cons, List.map_nil, semK, evM, setD]
  dsimp only [avOf, evR, evN, rsK, List.set]
  rw [forceK_eq]
  dsimp only [List.getD, List.set, codeK, opsK]
  rw [stepK_eq]
  simp only [gv, opnds, List.map_cons, List.map_nil, semK, evM, setD]
  cases ex with
  |true =>
   conv => whnf
   (refine oP (hk) ?_; conv => whnf)
   exact ⟨rfl, (auto_)⟩
  |false =>
   conv => whnf
   refine dR ?_
   conv => whnf
   (refine oC (canonicalF p c hw hpl) ?_; conv => whnf)
   (refine oC (hk2) ?_; conv => whnf)
   exact ⟨rfl, (auto_)⟩
 ·rintro u M' ⟨rfl, hM⟩
  exact ⟨srM p s ex l f, .str (keyB (nmC p ex c)), rfl, hM, rfl, rfl, rfl⟩
def metI (p : Pro) (ex : Bool) (l : List Org) (f : ByteArray → Option Int) (o : Org) : Int := match f (keyB (nmC p ex o.c)) with
 |some i => i
 |none => (l.length : Int)
def metL (p : Pro) (ex : Bool) (l : List Org) (f : ByteArray → Option Int) (o : Org) : List Org := match f (keyB (nmC p ex o.c)) with
 |some _ => l
 |none => l ++ [o]
noncomputable def metF (p : Pro) (ex : Bool) (l : List Org) (f : ByteArray → Option Int) (o : Org) : ByteArray → Option Int := match f (keyB (nmC p ex o.c)) with
 |some _ => f
 |none => updF f (keyB (nmC p ex o.c)) (l.length : Int)
def srN (p : Pro) (s : Siz) (ex : Bool) (l : List Org) (f : ByteArray → Option Int) : List (Nat × Blk) := [(7001, bxS p s ex 7004 l.length), (7002, mpS f), (7003, .dead), (7004, rowOg l)]
theorem meetF (p : Pro) (s : Siz) (ex : Bool) (l : List Org) (f : ByteArray → Option Int) (o : Org) (hl : l.length ≤ 100000000) (hw : wideB o.c = false) (hpl : plB p o.c) :
  Spec Tryz.prog 69 [.ptr 7001 0, .agg (encOg o)] (Mem.ofL (srM p s ex l f)) (fun u M => u = .int .i64 (metI p ex l f o) ∧ M = Mem.ofL (srN p s ex (metL p ex l f o) (metF p ex l f o))) := by
 refine Spec.renorm 400 (R := fun u M => u = .int .i64 (metI p ex l f o) ∧ ((memR [(7001, .old 7001), (7002, .old 7002), (7003, .old 7003), (7004, .old 7003)] 400 M (srN p s ex (metL p ex l f o) (metF p ex l f o))) ∨
  (memR [(7001, .old 7001), (7002, .old 7002), (7003, .old 7003), (7004, .old 41)] 400 M (srN p s ex (metL p ex l f o) (metF p ex l f o))))) ?_ ?_
 ·refine Spec.intro tt_ok mx_ok (srM p s ex l f) Tryz.func69 rfl (by decide) ?_
  conv => whnf
  refine boxP rfl ?_
  conv => whnf
  refine Spec.call (idL (srM p s ex l f)) (srM p s ex l f) 400 rfl (auto_) (auto_) (nameF p s ex l f o.c hw hpl) ?_
  rintro u M' ⟨rfl, rfl⟩
  refine ⟨idL (srM p s ex l f), srM p s ex l f, .str (keyB (nmC p ex o.c)), rfl, (auto_), rfl, ?_⟩
  conv => whnf
  refine lookI keyStr (keyB (nmC p ex o.c)) rfl (fun b hb => ?_) (fun hn => ?_)
  ·conv => whnf
   have e1 : metL p ex l f o = l := by simp only [metL, hb]
   have e2 : metF p ex l f o = f := by simp only [metF, hb]
   refine ⟨by simp only [metI, hb]; rfl, .inl ?_⟩
   rw [e1, e2]
   exact (auto_)
  ·conv => whnf
   refine updI keyStr (keyB (nmC p ex o.c)) (l.length : Int) rfl rfl ?_
   conv => whnf
   refine drawG (by decide +kernel) ?_
   conv => whnf
   refine bldI org0 encOg [o] rfl ?_
   conv => whnf
   refine leakN ?_
   conv => whnf
   refine appI [o] rfl lI ?_
   conv => whnf
   have e1 : metL p ex l f o = l ++ [o] := by simp only [metL, hn]
   have e2 : metF p ex l f o = updF f (keyB (nmC p ex o.c)) (l.length : Int) := by simp only [metF, hn]
   refine ⟨by simp only [metI, hn]; rfl, .inr ?_⟩
   rw [e1, e2]
   exact (auto_)
 ·rintro u M' ⟨rfl, hM | hM⟩
  ·exact ⟨_, _, .int .i64 (metI p ex l f o), rfl, hM, rfl, rfl, rfl⟩
  ·exact ⟨_, _, .int .i64 (metI p ex l f o), rfl, hM, rfl, rfl, rfl⟩
section
variable {P : Program}
theorem PSpec.of_tup {f : FuncId} {args : List AV} {R : AV → Prop} (n : Nat) (h : Spec P f args (Mem.ofL []) (fun u M => ∃ us, u = .tup us ∧ leakR us M fun us' _ => R (.tup us') ∧ persN n (.tup us') = true)) : PSpec P f args R := by
 rw [PSpec_iff]
 rw [Spec_iff] at h
 refine ⟨h.1, ?_⟩
 intro S F vs w hg hs hf hd hv
 refine (h.2 S F (fun _ => none) vs w ⟨hs, hf, hd, by simp, by simp [Mem.ofL, Mem.none], by simp, hg⟩ (hv.rv _)).mono ?_
 rintro e w' ⟨v, u, M', S', ρ', rfl, ⟨us, rfl, hR⟩, hle, _, hM', hr, hw⟩
 obtain ⟨xs, rfl, hxs⟩ := hr.tup_inv
 obtain ⟨us', M2, S2, ⟨hR2, hp⟩, hle2, hvs2, hM2⟩ := leakR_ok _ _ _ _ _ hR hxs hM'
 exact ⟨_, _, S2, rfl, hR2, Store.le_trans hle hle2, hM2.sw, hM2.fw, hM2.sf, persN_ok n hp (RV.tup_mk hvs2), hw⟩
end
theorem applyP (p : Pro) (s : Siz) (c : Cfg) (x : Stp) (h : Rdy p s c) (he : enB p s c x false) : PSpec Tryz.prog 75 [.agg (encV p s c), .agg (encX x)]
  (fun u => (apB c (rulX p x) x ∧ u = .tup [.agg (encC (apC c (rulX p x) x)), .int .i64 0]) ∨ (¬ apB c (rulX p x) x ∧ u = .tup [.agg cfgN, .int .i64 4])) := by
 refine PSpec.of_tup 5 ((applyV p s c x h he).mono ?_)
 rintro u M (⟨ha, rfl, h1, h2, h3, h4⟩ | ⟨hn, rfl⟩)
 ·refine ⟨_, rfl, ?_⟩
  unfold rowN at h1 h2 h3 h4
  simp only [cfgA, leakR, leakK]
  rw [h1]
  dsimp only
  rw [Mem.set_ne _ _ (by decide : (1002 : Nat) ≠ 1001), h2]
  dsimp only
  rw [Mem.set_ne _ _ (by decide : (1003 : Nat) ≠ 1002), Mem.set_ne _ _ (by decide : (1003 : Nat) ≠ 1001), h3]
  dsimp only
  rw [Mem.set_ne _ _ (by decide : (1004 : Nat) ≠ 1003), Mem.set_ne _ _ (by decide : (1004 : Nat) ≠ 1002), Mem.set_ne _ _ (by decide : (1004 : Nat) ≠ 1001), h4]
  exact ⟨.inl ⟨ha, rfl⟩, rfl⟩
 ·exact ⟨_, rfl, .inr ⟨hn, rfl⟩, rfl⟩
end Go.Proofs.YtaeomngmcfdfpaaGreatDoor
namespace Go.Proofs.YtaeomngmcfdfpaaGreatDoor
set_option maxRecDepth 100000
set_option maxHeartbeats 16000000
abbrev SrS := List Org × (ByteArray → Option Int)
noncomputable def exS (p : Pro) (ex : Bool) (c : Cfg) (i : Int) (y : SrS) (x : Stp) : SrS := (metL p ex y.1 y.2 ⟨apC c (rulX p x) x, i, x⟩, metF p ex y.1 y.2 ⟨apC c (rulX p x) x, i, x⟩)
noncomputable def exF (p : Pro) (ex : Bool) (c : Cfg) (i : Int) (pre : List Stp) (y : SrS) : SrS := pre.foldl (exS p ex c i) y
theorem exF_snoc (p : Pro) (ex : Bool) (c : Cfg) (i : Int) (pre : List Stp) (x : Stp) (y : SrS) : exF p ex c i (pre ++ [x]) y = exS p ex c i (exF p ex c i pre y) x := by
 unfold exF; rw [List.foldl_append]; rfl
theorem metL_len (p : Pro) (ex : Bool) (l : List Org) (f : ByteArray → Option Int) (o : Org) : (metL p ex l f o).length ≤ l.length + 1 := by
 unfold metL; split <;> simp
theorem exF_len (p : Pro) (ex : Bool) (c : Cfg) (i : Int) : ∀ (pre : List Stp) (y : SrS), (exF p ex c i pre y).1.length ≤ y.1.length + pre.length
 |[], y => by simp [exF]
 |x :: pre, y => by
  have h1 := exF_len p ex c i pre (exS p ex c i y x)
  have h2 := metL_len p ex y.1 y.2 ⟨apC c (rulX p x) x, i, x⟩
  simp only [exF, List.foldl_cons, List.length_cons] at h1 ⊢
  have : (exS p ex c i y x).1.length ≤ y.1.length + 1 := h2
  omega
def exM (p : Pro) (s : Siz) (ex : Bool) (c : Cfg) (y : SrS) (e : Int) : List (Nat × Blk) :=
 [(2, .box 82 [.ptr 7001 0]), (4, .box 41 [.int .i64 e]), (5, .box 129 (encV p s c)), (7001, bxS p s ex 7004 y.1.length), (7002, mpS y.2), (7003, .dead), (7004, rowOg y.1)]
def rdX (r : Loop) (b : Bool) : Loop := match b with
 |true => doneL r
 |false => r
def erX (b : Bool) : Int := match b with
 |true => 4
 |false => 0
noncomputable def xtM (p : Pro) (s : Siz) (ex : Bool) (c : Cfg) (i : Int) (y0 : SrS) (r : Loop) (x : List Stp × Bool) : List (Nat × Blk) := (5000, .obj (.loop (rdX r x.2))) :: exM p s ex c (exF p ex c i x.1 y0) (erX x.2)
def lm4 : LMap := [(7001, .old 7001), (7002, .old 7002), (7003, .old 7003), (7004, .old 7004)]
theorem expandF (p : Pro) (s : Siz) (ex : Bool) (y0 : SrS) (i : Nat) (o : Org) (ho : y0.1.getD i org0 = o) (hi : i < y0.1.length) (hy : y0.1.length ≤ 50000000) (h : Rdy p s o.c)
  (hok : ∀ x, enB p s o.c x false → apB o.c (rulX p x) x → wideB (apC o.c (rulX p x) x) = false ∧ plB p (apC o.c (rulX p x) x)) :
  Spec Tryz.prog 36 [.ptr 7001 0, .int .i64 (i : Int)] (Mem.ofL (srM p s ex y0.1 y0.2)) (fun u M =>
   ((∀ x ∈ stA p s o.c p.rules.length, apB o.c (rulX p x) x) ∧ u = .int .i64 0 ∧
    M = Mem.ofL (srN p s ex (exF p ex o.c i (stA p s o.c p.rules.length) y0).1 (exF p ex o.c i (stA p s o.c p.rules.length) y0).2)) ∨
   ((∃ x, enB p s o.c x false ∧ ¬ apB o.c (rulX p x) x) ∧ u = .int .i64 4 ∧ ∃ z : SrS, M = Mem.ofL (srN p s ex z.1 z.2))) := by
 have hw := h.wide
 refine Spec.renorm 400 (R := fun u M => ((∀ x ∈ stA p s o.c p.rules.length, apB o.c (rulX p x) x) ∧ u = .int .i64 0 ∧
    memR lm4 400 M (srN p s ex (exF p ex o.c i (stA p s o.c p.rules.length) y0).1 (exF p ex o.c i (stA p s o.c p.rules.length) y0).2)) ∨
   ((∃ x, enB p s o.c x false ∧ ¬ apB o.c (rulX p x) x) ∧ u = .int .i64 4 ∧ ∃ z, memR lm4 400 M (srN p s ex (exF p ex o.c i z y0).1 (exF p ex o.c i z y0).2))) ?_ ?_
 case refine_2 =>
  rintro u M (⟨h1, rfl, h2⟩ | ⟨h1, rfl, z, h2⟩)
  ·exact ⟨lm4, _, .int .i64 0, rfl, h2, rfl, .inl ⟨h1, rfl, rfl⟩⟩
  ·exact ⟨lm4, _, .int .i64 4, rfl, h2, rfl, .inr ⟨h1, rfl, exF p ex o.c i z y0, rfl⟩⟩
 refine Spec.introY tt_ok mx_ok (srM p s ex y0.1 y0.2) Tryz.func36 rfl (by decide) ?_
 conv => whnf
 refine boxL ?_
 conv => whnf
 refine boxP rfl ?_
 conv => whnf
 refine dI ?_
 conv => whnf
 refine nI ?_
 rw [tN]
 conv => whnf
 rw [ho]
 (refine oC (seeF p s o.c hw) ?_; conv => whnf)
 (refine oP (stepsS p s o.c) ?_; conv => whnf)
 refine WPy.subM anyC_mono (Sub.by_ [(2, .old 2), (4, .old 4), (5, .old 5), (7001, .old 7001), (7002, .old 7002), (7003, .old 7003), (7004, .old 7003)] (exM p s ex o.c y0 0) 400 rfl (auto_) (auto_)) ?_
 refine WPy.range 5000 [2, 4, 5, 7001, 7002, 7003] (fun M' => (∀ x ∈ stA p s o.c p.rules.length, apB o.c (rulX p x) x) ∧ ∃ r, M' = Mem.ofL (xtM p s ex o.c i y0 r (stA p s o.c p.rules.length, false)))
  (fun M' => (∃ x, enB p s o.c x false ∧ ¬ apB o.c (rulX p x) x) ∧ ∃ r z, M' = Mem.ofL (xtM p s ex o.c i y0 r (z, true))) rfl rfl rfl rfl (fun l r h1 h2 h3 h4 h5 => ?_) ?_ ?_
 ·rw [Mem.ofL_cons]
  refine (iterG p s o.c h (recL_mono 5000 l r _) (fun pre (x : List Stp × Bool) => x = (pre, false) ∧ ∀ z ∈ pre, apB o.c (rulX p z) z) (fun x => x.2 = true ∧ ∃ x, enB p s o.c x false ∧ ¬ apB o.c (rulX p x) x) (xtM p s ex o.c i y0 r) (fun x => ⟨rfl, auto_⟩) (fun _ => rfl) _ (fun pre x st hpre hx hst => ?_) ([], false) ⟨rfl, fun z hz => by cases hz⟩).mono ?_
  ·obtain ⟨rfl, hap⟩ := hx
   refine YS.round tt_ok mx_ok h1 h2 h3 h4 h5 rfl ?_
   conv => whnf
   refine ⟨rfl, ?_⟩
   conv => whnf
   refine Spec.of_pure (n := 5) (applyP p s o.c st h hst) rfl ?_
   rintro _ (⟨ha, rfl⟩ | ⟨hn, rfl⟩)
   ·conv => whnf
    refine fI ?_
    conv => whnf
    have hlen := exF_len p ex o.c i pre y0
    have hsn := exF_snoc p ex o.c i pre st y0
    refine Spec.call [(7001, .old 7001), (7002, .old 7002), (7003, .old 7004)] (srM p s ex (exF p ex o.c (i : Int) pre y0).1 (exF p ex o.c (i : Int) pre y0).2) 400 rfl (auto_) (auto_) (meetF p s ex (exF p ex o.c (i : Int) pre y0).1 (exF p ex o.c (i : Int) pre y0).2 ⟨apC o.c (rulX p st) st, i, st⟩ (by omega) (hok st hst ha).1 (hok st hst ha).2) ?_
    rintro u M' ⟨rfl, rfl⟩
    refine ⟨[(7001, .old 7001), (7002, .old 7002), (7004, .old 7003), (7005, .old 7004)], [(7001, bxS p s ex 7005 (metL p ex (exF p ex o.c (i : Int) pre y0).1 (exF p ex o.c (i : Int) pre y0).2 ⟨apC o.c (rulX p st) st, i, st⟩).length), (7002, mpS (metF p ex (exF p ex o.c (i : Int) pre y0).1 (exF p ex o.c (i : Int) pre y0).2 ⟨apC o.c (rulX p st) st, i, st⟩)), (7004, .dead), (7005, rowOg (metL p ex (exF p ex o.c (i : Int) pre y0).1 (exF p ex o.c (i : Int) pre y0).2 ⟨apC o.c (rulX p st) st, i, st⟩))], .int .i64 (metI p ex (exF p ex o.c (i : Int) pre y0).1 (exF p ex o.c (i : Int) pre y0).2 ⟨apC o.c (rulX p st) st, i, st⟩), rfl, (auto_), rfl, ?_⟩
    conv => whnf
    refine ⟨rfl, xtM p s ex o.c i y0 r (pre ++ [st], false), ?_, _, rfl, .inl ⟨rfl, rfl, fun z hz => ?_⟩⟩
    ·unfold xtM
     dsimp only
     rw [hsn]
     exact Sub.by_ [(5000, .old 5000), (2, .old 2), (4, .old 4), (5, .old 5), (7001, .old 7001), (7002, .old 7002), (7003, .old 7003), (7004, .old 7005)] _ 400 rfl (auto_) trivial
    ·rcases List.mem_append.1 hz with hz | hz
     ·exact hap z hz
     ·rw [List.mem_singleton] at hz; subst hz; exact ha
   ·conv => whnf
    refine tI ?_
    conv => whnf
    exact ⟨rfl, xtM p s ex o.c i y0 r (pre, true), Sub.by_ [(5000, .old 5000), (2, .old 2), (4, .old 4), (5, .old 5), (7001, .old 7001), (7002, .old 7002), (7003, .old 7003), (7004, .old 7004)] _ 400 rfl (auto_) trivial, _, rfl, .inr ⟨rfl, rfl, st, hst, hn⟩⟩
  ·rintro u M ⟨x, rfl, ⟨rfl, hap⟩ | ⟨h6, h7⟩⟩
   ·exact .inl ⟨rfl, hap, r, rfl⟩
   ·obtain ⟨z, b⟩ := x
    dsimp only at h6
    subst h6
    exact .inr ⟨rfl, h7, r, z, rfl⟩
 ·rintro M' ⟨hap, r, rfl⟩
  conv => whnf
  exact .inl ⟨hap, rfl, auto_⟩
 ·rintro M' ⟨hno, r, z, rfl⟩
  conv => whnf
  exact .inr ⟨hno, rfl, z, auto_⟩
noncomputable def inS (p : Pro) (ex : Bool) (y : SrS) (c : Cfg) : SrS := (metL p ex y.1 y.2 ⟨c, -1, stp0⟩, metF p ex y.1 y.2 ⟨c, -1, stp0⟩)
noncomputable def inF (p : Pro) (ex : Bool) (cs : List Cfg) : SrS := cs.foldl (inS p ex) ([], fun _ => none)
theorem inF_snoc (p : Pro) (ex : Bool) (cs : List Cfg) (c : Cfg) : inF p ex (cs ++ [c]) = inS p ex (inF p ex cs) c := by
 unfold inF; rw [List.foldl_append]; rfl
theorem inG_len (p : Pro) (ex : Bool) : ∀ (cs : List Cfg) (y : SrS), (cs.foldl (inS p ex) y).1.length ≤ y.1.length + cs.length
 |[], y => by simp
 |c :: cs, y => by
  have h1 := inG_len p ex cs (inS p ex y c)
  have h2 : (inS p ex y c).1.length ≤ y.1.length + 1 := metL_len p ex y.1 y.2 ⟨c, -1, stp0⟩
  simp only [List.foldl_cons, List.length_cons] at h1 ⊢
  omega
theorem inF_len (p : Pro) (ex : Bool) (cs : List Cfg) : (inF p ex cs).1.length ≤ cs.length := by
 have := inG_len p ex cs ([], fun _ => none)
 simpa [inF] using this
theorem inF_take (p : Pro) (ex : Bool) {cs : List Cfg} {k : Nat} (h : k < cs.length) : inF p ex (cs.take (k + 1)) = inS p ex (inF p ex (cs.take k)) (cs.getD k cfg0) := by
 have e : cs.getD k cfg0 = cs[k] := by rw [gD, gL h]; rfl
 rw [List.take_succ_eq_append_getElem h, inF_snoc, e]
theorem beginF (p : Pro) (q : Prp) (s : Siz) (ex : Bool) (l : List Cfg) (e : Int) (hI : PSpec Tryz.prog 68 [.agg (encP p), .agg (encQ q), .agg (encZ s)] (fun u => u = rpA l e))
  (hl : l.length ≤ 100000) (hw : ∀ k, k < l.length → wideB (l.getD k cfg0) = false ∧ plB p (l.getD k cfg0)) :
  Spec Tryz.prog 33 [.agg (encP p), .agg (encQ q), .agg (encZ s), .bool ex] (Mem.ofL []) (fun u M =>
   (e ≠ 0 ∧ u = .tup [.val (.pointer none), .int .i64 e]) ∨ (e = 0 ∧ u = .tup [.ptr 7001 0, .int .i64 0] ∧ M = Mem.ofL (srM p s ex (inF p ex l).1 (inF p ex l).2))) := by
 refine Spec.intro tt_ok mx_ok [] Tryz.func33 rfl (by decide) ?_
 conv => whnf
 refine boxP rfl ?_
 conv => whnf
 refine boxP rfl ?_
 conv => whnf
 refine boxP rfl ?_
 conv => whnf
 (refine oP (hI) ?_; conv => whnf)
 refine cmpI ?_ ?_ <;> (intro h1; conv => whnf)
 ·exact .inl ⟨h1, rfl⟩
 have h0 : e = 0 := by omega
 subst h0
 refine mapI Value.string (Value.int .i64) ?_
 conv => whnf
 refine boxL ?_
 conv => whnf
 refine WPc.loopF tt_ok mx_ok (fun k : Nat => k ≤ l.length) (fun k => [(12, .ptr 7001 0), (28, .top), (29, .top), (30, .top), (33, .int .i64 (k : Int))]) (fun k => srM p s ex (inF p ex (l.take k)).1 (inF p ex (l.take k)).2) (fun k => l.length - k) 0 (Nat.zero_le _) ?_; conv => whnf
 refine ⟨Sub.by_ [(7001, .old 30), (7002, .old 28), (7003, .nil 10)] _ 400 rfl (auto_) (auto_), ?_⟩
 rintro k hk
 conv => whnf
 refine cmpI ?_ ?_ <;> (intro g1; conv => whnf)
 ·have hlt : k < l.length := by omega
  refine nI ?_
  conv => whnf
  have hlen := inF_len p ex (l.take k)
  rw [List.length_take] at hlen
  have e1 := inF_take p ex hlt
  have hwk := hw k hlt
  rw [tN]
  refine Spec.call [(7001, .old 7001), (7002, .old 7002), (7003, .old 7003)] (srM p s ex (inF p ex (l.take k)).1 (inF p ex (l.take k)).2) 400 rfl (auto_) (auto_) (meetF p s ex (inF p ex (l.take k)).1 (inF p ex (l.take k)).2 ⟨l.getD k cfg0, -1, stp0⟩ (by omega) hwk.1 hwk.2) ?_
  rintro u M' ⟨rfl, rfl⟩
  refine ⟨lm4, srN p s ex (inS p ex (inF p ex (l.take k)) (l.getD k cfg0)).1 (inS p ex (inF p ex (l.take k)) (l.getD k cfg0)).2, .int .i64 (metI p ex (inF p ex (l.take k)).1 (inF p ex (l.take k)).2 ⟨l.getD k cfg0, -1, stp0⟩), rfl, (auto_), rfl, ?_⟩
  conv => whnf
  repeat' ((first|refine nI ?_|refine aI ?_|refine tI ?_|refine fI ?_|fail);conv => whnf)
  refine ⟨k + 1, ?_, by omega, by dsimp only; omega⟩
  dsimp only
  rw [e1]
  exact Sub.by_ [(7001, .old 7001), (7002, .old 7002), (7003, .old 7004)] _ 400 rfl (auto_) (auto_)
 ·obtain rfl : k = l.length := by omega
  rw [List.take_length]
  exact .inr ⟨rfl, rfl, rfl⟩
end Go.Proofs.YtaeomngmcfdfpaaGreatDoor
namespace Go.Proofs.YtaeomngmcfdfpaaGreatDoor
set_option maxRecDepth 100000
section
variable {α : Type} (g : α → Cfg)
open Classical in
noncomputable def addG (l : List α) (o : α) : List α := if g o ∈ l.map g then l else l ++ [o]
noncomputable def addsG (l : List α) (os : List α) : List α := os.foldl (addG g) l
theorem addG_yes {l : List α} {o : α} (h : g o ∈ l.map g) : addG g l o = l := if_pos h
theorem addG_no {l : List α} {o : α} (h : g o ∉ l.map g) : addG g l o = l ++ [o] := if_neg h
theorem addG_pre (l : List α) (o : α) : ∃ m, addG g l o = l ++ m := by
 by_cases h : g o ∈ l.map g
 ·exact ⟨[], by rw [addG_yes g h, List.append_nil]⟩
 ·exact ⟨[o], addG_no g h⟩
theorem addG_dis {l : List α} (o : α) (h : (l.map g).Nodup) : ((addG g l o).map g).Nodup := by
 by_cases hm : g o ∈ l.map g
 ·rw [addG_yes g hm]; exact h
 ·rw [addG_no g hm, List.map_append, List.map_singleton, List.nodup_append]
  exact ⟨h, by simp, fun a ha b hb e => by rw [List.mem_singleton] at hb; subst hb; subst e; exact hm ha⟩
theorem addG_mem (l : List α) (o : α) : g o ∈ (addG g l o).map g := by
 by_cases hm : g o ∈ l.map g
 ·rw [addG_yes g hm]; exact hm
 ·rw [addG_no g hm]; simp
theorem addG_of {l : List α} {o k : α} (h : k ∈ addG g l o) : k ∈ l ∨ k = o := by
 by_cases hm : g o ∈ l.map g
 ·rw [addG_yes g hm] at h; exact .inl h
 ·rw [addG_no g hm] at h; simpa using h
theorem addG_len (l : List α) (o : α) : (addG g l o).length ≤ l.length + 1 := by
 by_cases hm : g o ∈ l.map g
 ·rw [addG_yes g hm]; omega
 ·rw [addG_no g hm]; simp
theorem addsG_cons (l : List α) (o : α) (os : List α) : addsG g l (o :: os) = addsG g (addG g l o) os := rfl
theorem addsG_nil (l : List α) : addsG g l [] = l := rfl
theorem addsG_snoc (l os : List α) (o : α) : addsG g l (os ++ [o]) = addG g (addsG g l os) o := by
 unfold addsG; rw [List.foldl_append]; rfl
theorem addsG_pre : ∀ (os l : List α), ∃ m, addsG g l os = l ++ m
 |[], l => ⟨[], by rw [List.append_nil]; rfl⟩
 |o :: os, l => by
  obtain ⟨m1, h1⟩ := addG_pre g l o
  obtain ⟨m2, h2⟩ := addsG_pre os (addG g l o)
  exact ⟨m1 ++ m2, by rw [addsG_cons, h2, h1, List.append_assoc]⟩
theorem addsG_dis : ∀ (os : List α) {l : List α}, (l.map g).Nodup → ((addsG g l os).map g).Nodup
 |[], _, h => h
 |o :: os, _, h => addsG_dis os (addG_dis g o h)
theorem addsG_sub {os l : List α} {k : Cfg} (h : k ∈ l.map g) : k ∈ (addsG g l os).map g := by
 obtain ⟨m, e⟩ := addsG_pre g os l
 rw [e, List.map_append]
 exact List.mem_append_left _ h
theorem addsG_mem : ∀ (os l : List α), ∀ o ∈ os, g o ∈ (addsG g l os).map g
 |[], _, _, hk => absurd hk List.not_mem_nil
 |o :: os, l, k, hk => by
  rcases List.mem_cons.1 hk with rfl | hk
  ·rw [addsG_cons]; exact addsG_sub g (addG_mem g l k)
  ·exact addsG_mem os (addG g l o) k hk
theorem addsG_of : ∀ (os : List α) {l : List α} {k : α}, k ∈ addsG g l os → k ∈ l ∨ k ∈ os
 |[], _, _, h => .inl h
 |o :: os, l, k, h => by
  rcases addsG_of os (l := addG g l o) h with h | h
  ·rcases addG_of g h with h | h
   ·exact .inl h
   ·exact .inr (by rw [h]; exact List.mem_cons_self)
  ·exact .inr (List.mem_cons_of_mem _ h)
theorem addsG_len : ∀ (os l : List α), (addsG g l os).length ≤ l.length + os.length
 |[], l => by simp [addsG]
 |o :: os, l => by
  have h1 := addsG_len os (addG g l o)
  have h2 := addG_len g l o
  rw [addsG_cons, List.length_cons]
  omega
end
section
variable {p : Pro} {q : Prp} {s : Siz} {ex : Bool}
def nmO (p : Pro) (ex : Bool) (o : Org) : Cfg := nmC p ex o.c
structure Lev (p : Pro) (q : Prp) (s : Siz) (l : List Org) (lo n : Nat) : Prop where
 le : lo ≤ l.length
 og : OrgI p q s l
 dis : (l.map (nmO p false)).Nodup
 kd : ∀ k, KD p q s n k ↔ k ∈ l.map (nmO p false)
 kl : ∀ k, (∃ m, m < n ∧ KD p q s m k) ↔ k ∈ (l.take lo).map (nmO p false)
 len : ∀ i r xs, lo ≤ i → i < l.length → Chain l i r xs → xs.length = n
 on : ∀ m, m < n → OnAt p q s m
 few : lo ≤ 4000
 num : n ≤ lo
theorem wn_zero {c : Cfg} (h : Wn p q s 0 c) : isI p q s c := by
 cases h with
 |ini h => exact h
theorem Lev.zero (cs : List Cfg) (h1 : ∀ c, c ∈ cs ↔ isI p q s c) : Lev p q s (addsG (nmO p false) [] (cs.map fun c => ⟨c, -1, stp0⟩)) 0 0 := by
 have hog : ∀ (os : List Cfg) (l : List Org), (∀ c ∈ os, isI p q s c) → OrgI p q s l → (∀ i, i < l.length → (oAt l i).src = -1) → OrgI p q s (addsG (nmO p false) l (os.map fun c => ⟨c, -1, stp0⟩)) ∧ ∀ i, i < (addsG (nmO p false) l (os.map fun c => ⟨c, -1, stp0⟩)).length → (oAt (addsG (nmO p false) l (os.map fun c => ⟨c, -1, stp0⟩)) i).src = -1 := by
  intro os
  induction os with
  |nil => exact fun l _ h1 h2 => ⟨h1, h2⟩
  |cons c os ih =>
   intro l h1 h2 h3
   rw [List.map_cons, addsG_cons]
   refine ih _ (fun d hd => h1 d (List.mem_cons_of_mem _ hd)) ?_ ?_
   ·by_cases hm : nmO p false ⟨c, -1, stp0⟩ ∈ l.map (nmO p false)
    ·rw [addG_yes _ hm]; exact h2
    ·rw [addG_no _ hm]; exact h2.ini (h1 c List.mem_cons_self) _
   ·by_cases hm : nmO p false ⟨c, -1, stp0⟩ ∈ l.map (nmO p false)
    ·rw [addG_yes _ hm]; exact h3
    ·rw [addG_no _ hm]
     intro i hi
     rw [List.length_append, List.length_singleton] at hi
     by_cases e : i < l.length
     ·rw [oAt_app e]; exact h3 i e
     ·have : i = l.length := by omega
      subst this
      rw [oAt_snoc]
 obtain ⟨g1, g2⟩ := hog cs [] (fun c hc => (h1 c).1 hc) OrgI.nil (fun i hi => absurd hi (Nat.not_lt_zero _))
 refine ⟨Nat.zero_le _, g1, addsG_dis _ _ (by simp), fun k => ⟨?_, ?_⟩, fun k => ⟨?_, ?_⟩, ?_, fun m hm => absurd hm (Nat.not_lt_zero _), by omega, Nat.le_refl _⟩
 ·rintro ⟨m, c, hm, hw, rfl⟩
  obtain rfl : m = 0 := by omega
  exact addsG_mem (nmO p false) _ [] ⟨c, -1, stp0⟩ (List.mem_map.2 ⟨c, (h1 c).2 (wn_zero hw), rfl⟩)
 ·intro hk
  obtain ⟨o, ho, rfl⟩ := List.mem_map.1 hk
  rcases addsG_of _ _ ho with h | h
  ·exact absurd h List.not_mem_nil
  ·obtain ⟨c, hc, rfl⟩ := List.mem_map.1 h
   exact ⟨0, c, Nat.le_refl _, .ini ((h1 c).1 hc), rfl⟩
 ·rintro ⟨m, hm, _⟩; omega
 ·intro hk; simp at hk
 ·intro i r xs _ hi hc
  cases hc with
  |root _ => rfl
  |step hj h _ => have := g2 i hi; omega
theorem Lev.wn {l : List Org} {lo n : Nat} (h : Lev p q s l lo n) {i : Nat} (h1 : lo ≤ i) (h2 : i < l.length) : Wn p q s n (oAt l i).c := by
 obtain ⟨r, xs, hc⟩ := Chain.ex h.og i h2
 have := hc.wn h.og h2
 rw [h.len i r xs h1 h2 hc] at this
 exact this
theorem oAt_mem {l : List Org} {i : Nat} (h : i < l.length) : oAt l i ∈ l := getD_memA org0 h
theorem take_oAt {l : List Org} {lo : Nat} {k : Cfg} (h : k ∈ (l.take lo).map (nmO p ex)) : ∃ i, i < lo ∧ i < l.length ∧ nmO p ex (oAt l i) = k := by
 obtain ⟨o, ho, rfl⟩ := List.mem_map.1 h
 obtain ⟨i, hi, rfl⟩ := mem_getDA org0 ho
 rw [List.length_take] at hi
 refine ⟨i, by omega, by omega, ?_⟩
 congr 1
 unfold oAt
 rw [gD, gD, List.getElem?_take, if_pos (by omega)]
theorem oAt_take {l : List Org} {lo i : Nat} (h : i < lo) (hl : i < l.length) : nmO p ex (oAt l i) ∈ (l.take lo).map (nmO p ex) := by
 refine List.mem_map.2 ⟨oAt l i, ?_, rfl⟩
 have e : oAt l i = (l.take lo).getD i org0 := by
  unfold oAt
  rw [gD, gD, List.getElem?_take, if_pos h]
 rw [e]
 exact getD_memA org0 (by rw [List.length_take]; omega)
theorem Lev.near {l : List Org} {lo n : Nat} (h : Lev p q s l lo n) {k : Cfg} (hk : KD p q s n k) : (∃ m, m < n ∧ KD p q s m k) ∨ ∃ i, lo ≤ i ∧ i < l.length ∧ nmO p false (oAt l i) = k := by
 obtain ⟨o, ho, e⟩ := List.mem_map.1 ((h.kd k).1 hk)
 obtain ⟨i, hi, rfl⟩ := mem_getDA org0 ho
 by_cases hlo : lo ≤ i
 ·exact .inr ⟨i, hlo, hi, e⟩
 ·left
  rw [h.kl, ← e]
  exact oAt_take (by omega) hi
theorem Lev.end_iff {l : List Org} {lo n : Nat} (h : Lev p q s l lo n) : EndAt p q s n ↔ lo = l.length := by
 constructor
 ·intro he
  by_cases hlt : lo < l.length
  ·exfalso
   have h1 := (h.kl _).1 (he _ ((h.kd _).2 (List.mem_map.2 ⟨oAt l lo, oAt_mem hlt, rfl⟩)))
   obtain ⟨i, hi1, hi2, e⟩ := take_oAt h1
   have hd := List.pairwise_iff_getElem.1 h.dis i lo (by rw [List.length_map]; omega) (by rw [List.length_map]; omega) hi1
   rw [List.getElem_map, List.getElem_map] at hd
   unfold oAt at e
   rw [gD, gL hi2, gD, gL hlt] at e
   exact hd e
  ·have := h.le
   omega
 ·intro e k hk
  rw [h.kl, e, List.take_length]
  exact (h.kd k).1 hk
theorem Lev.few_iff {l : List Org} {lo n : Nat} (h : Lev p q s l lo n) : FewAt p q s n ↔ l.length ≤ 4000 := by
 constructor
 ·rintro ⟨L, h1, h2⟩
  have := nodup_le h.dis (m := L) fun k hk => h2 k ((h.kd k).2 hk)
  rw [List.length_map] at this
  omega
 ·intro hl
  exact ⟨l.map (nmO p false), by rw [List.length_map]; exact hl, fun k hk => (h.kd k).1 hk⟩
theorem Lev.bad_iff (S : Sys p q s) {l : List Org} {lo n : Nat} (h : Lev p q s l lo n) : BadAt p q s n ↔ ∃ i, lo ≤ i ∧ i < l.length ∧ badB p q (oAt l i).c := by
 constructor
 ·rintro ⟨c, hw, hb⟩
  rcases h.near ⟨n, c, Nat.le_refl _, hw, rfl⟩ with ⟨m, hm, j, d, hj, hwd, e⟩ | ⟨i, h1, h2, e⟩
  ·exact absurd ⟨d, hwd, (bad_can (hwd.rdy S) (hw.rdy S) e).2 hb⟩ (h.on j (by omega)).2.1
  ·exact ⟨i, h1, h2, (bad_can ((h.wn h1 h2).rdy S) (hw.rdy S) e).2 hb⟩
 ·rintro ⟨i, h1, h2, hb⟩
  exact ⟨_, h.wn h1 h2, hb⟩
theorem Lev.over_iff (S : Sys p q s) {l : List Org} {lo n : Nat} (h : Lev p q s l lo n) : OverAt p q s n ↔ ∃ i, lo ≤ i ∧ i < l.length ∧ ∃ x, enB p s (oAt l i).c x false ∧ ¬ apB (oAt l i).c (rulX p x) x := by
 constructor
 ·rintro ⟨c, x, hw, he, ha⟩
  rcases h.near ⟨n, c, Nat.le_refl _, hw, rfl⟩ with ⟨m, hm, j, d, hj, hwd, e⟩ | ⟨i, h1, h2, e⟩
  ·obtain ⟨y, k1, k2, k3, _⟩ := can_sim (hw.rdy S) (hwd.rdy S) e.symm he
   refine absurd ⟨d, y, hwd, k1, ?_⟩ (h.on j (by omega)).2.2.2
   rw [k2]; exact fun hh => ha (k3.1 hh)
  ·obtain ⟨y, k1, k2, k3, _⟩ := can_sim (hw.rdy S) ((h.wn h1 h2).rdy S) e.symm he
   refine ⟨i, h1, h2, y, k1, ?_⟩
   rw [k2]; exact fun hh => ha (k3.1 hh)
 ·rintro ⟨i, h1, h2, x, he, ha⟩
  exact ⟨_, x, h.wn h1 h2, he, ha⟩
theorem Lev.endS {l : List Org} {lo n : Nat} (h : Lev p q s l lo n) (e : lo = l.length) : ShP p q s n false 0 := ⟨h.on, .inl ⟨h.end_iff.2 e, rfl, rfl⟩⟩
theorem Lev.badS (S : Sys p q s) {l : List Org} {lo n : Nat} (h : Lev p q s l lo n) {i : Nat} (h1 : lo ≤ i) (h2 : i < l.length) (hb : badB p q (oAt l i).c) : ShP p q s n true 0 :=
 ⟨h.on, .inr (.inl ⟨fun he => by have := h.end_iff.1 he; omega, (h.bad_iff S).2 ⟨i, h1, h2, hb⟩, rfl, rfl⟩)⟩
theorem Lev.manyS (S : Sys p q s) {l : List Org} {lo n : Nat} (h : Lev p q s l lo n) (h1 : lo < l.length) (hb : ∀ i, lo ≤ i → i < l.length → ¬ badB p q (oAt l i).c) (hf : 4000 < l.length) : ShP p q s n false 4 :=
 ⟨h.on, .inr (.inr ⟨fun he => by have := h.end_iff.1 he; omega, fun hh => by obtain ⟨i, g1, g2, g3⟩ := (h.bad_iff S).1 hh; exact hb i g1 g2 g3, .inl fun hh => by have := h.few_iff.1 hh; omega, rfl, rfl⟩)⟩
theorem Lev.overS (S : Sys p q s) {l : List Org} {lo n : Nat} (h : Lev p q s l lo n) (hb : ∀ i, lo ≤ i → i < l.length → ¬ badB p q (oAt l i).c) {i : Nat} (h1 : lo ≤ i) (h2 : i < l.length) (ho : ∃ x, enB p s (oAt l i).c x false ∧ ¬ apB (oAt l i).c (rulX p x) x) : ShP p q s n false 4 :=
 ⟨h.on, .inr (.inr ⟨fun he => by have := h.end_iff.1 he; omega, fun hh => by obtain ⟨i, g1, g2, g3⟩ := (h.bad_iff S).1 hh; exact hb i g1 g2 g3, .inr ((h.over_iff S).2 ⟨i, h1, h2, ho⟩), rfl, rfl⟩)⟩
structure LevX (p : Pro) (q : Prp) (s : Siz) (l0 : List Org) (lo : Nat) (l : List Org) (i : Nat) : Prop where
 pre : ∃ m, l = l0 ++ m
 og : OrgI p q s l
 dis : (l.map (nmO p false)).Nodup
 src : ∀ j, l0.length ≤ j → j < l.length → ∃ k : Nat, lo ≤ k ∧ k < l0.length ∧ (oAt l j).src = (k : Int)
 stp : ∀ j, lo ≤ j → j < i → ∀ x, enB p s (oAt l0 j).c x false → apB (oAt l0 j).c (rulX p x) x ∧ nmC p false (apC (oAt l0 j).c (rulX p x) x) ∈ l.map (nmO p false)
theorem LevX.zero {l : List Org} {lo n : Nat} (h : Lev p q s l lo n) : LevX p q s l lo l lo :=
 ⟨⟨[], by simp⟩, h.og, h.dis, fun j h1 h2 => by omega, fun j h1 h2 => by omega⟩
theorem LevX.same {l0 l : List Org} {lo i j : Nat} (h : LevX p q s l0 lo l i) (hj : j < l0.length) : oAt l j = oAt l0 j := by
 obtain ⟨m, e⟩ := h.pre
 rw [e, oAt_app hj]
def exO (p : Pro) (c : Cfg) (i : Nat) (x : Stp) : Org := ⟨apC c (rulX p x) x, (i : Int), x⟩
theorem OrgI.exs {c : Cfg} {i : Nat} : ∀ (xs : List Stp) {l : List Org}, OrgI p q s l → i < l.length → (oAt l i).c = c → (∀ x ∈ xs, enB p s c x false ∧ apB c (rulX p x) x) → OrgI p q s (addsG (nmO p ex) l (xs.map (exO p c i)))
 |[], _, h, _, _, _ => h
 |x :: xs, l, h, hi, hc, hx => by
  rw [List.map_cons, addsG_cons]
  obtain ⟨m, e⟩ := addG_pre (nmO p ex) l (exO p c i x)
  refine OrgI.exs xs ?_ (by rw [e, List.length_append]; omega) (by rw [e, oAt_app hi]; exact hc) fun y hy => hx y (List.mem_cons_of_mem _ hy)
  by_cases hm : nmO p ex (exO p c i x) ∈ l.map (nmO p ex)
  ·rw [addG_yes _ hm]; exact h
  ·rw [addG_no _ hm]
   have h1 := hx x List.mem_cons_self
   subst hc
   exact h.stp hi h1.1 h1.2
theorem src_adds {os l : List Org} (P : Int → Prop) (h : ∀ o ∈ os, P o.src) {j : Nat} (h1 : l.length ≤ j) (h2 : j < (addsG (nmO p ex) l os).length) : P (oAt (addsG (nmO p ex) l os) j).src := by
 induction os generalizing l with
 |nil => rw [addsG_nil] at h2; omega
 |cons o os ih =>
  rw [addsG_cons] at h2 ⊢
  by_cases hj : (addG (nmO p ex) l o).length ≤ j
  ·exact ih (fun k hk => h k (List.mem_cons_of_mem _ hk)) hj h2
  ·obtain ⟨m, e⟩ := addsG_pre (nmO p ex) os (addG (nmO p ex) l o)
   rw [e, oAt_app (by omega)]
   by_cases hm : nmO p ex o ∈ l.map (nmO p ex)
   ·rw [addG_yes _ hm] at hj; omega
   ·rw [addG_no _ hm] at hj ⊢
    rw [List.length_append, List.length_singleton] at hj
    have : j = l.length := by omega
    subst this
    rw [oAt_snoc]
    exact h o List.mem_cons_self
theorem LevX.next {l0 l : List Org} {lo i : Nat} (h : LevX p q s l0 lo l i) (h1 : lo ≤ i) (h2 : i < l0.length) (xs : List Stp) (hxs : ∀ x, x ∈ xs ↔ enB p s (oAt l0 i).c x false) (ha : ∀ x ∈ xs, apB (oAt l0 i).c (rulX p x) x) :
  LevX p q s l0 lo (addsG (nmO p false) l (xs.map (exO p (oAt l0 i).c i))) (i + 1) := by
 obtain ⟨m0, e0⟩ := h.pre
 obtain ⟨m, e⟩ := addsG_pre (nmO p false) (xs.map (exO p (oAt l0 i).c i)) l
 have hl : l0.length ≤ l.length := by rw [e0, List.length_append]; omega
 refine ⟨⟨m0 ++ m, by rw [e, e0, List.append_assoc]⟩, OrgI.exs xs h.og (by omega) (by rw [h.same h2]) fun x hx => ⟨(hxs x).1 hx, ha x hx⟩, addsG_dis _ _ h.dis, fun j g1 g2 => ?_, fun j g1 g2 x he => ?_⟩
 ·by_cases hj : j < l.length
  ·rw [e, oAt_app hj]; exact h.src j g1 hj
  ·exact src_adds (p := p) (ex := false) (fun k => ∃ k' : Nat, lo ≤ k' ∧ k' < l0.length ∧ k = (k' : Int)) (fun o ho => by
    obtain ⟨x, _, rfl⟩ := List.mem_map.1 ho
    exact ⟨i, h1, h2, rfl⟩) (by omega) g2
 ·by_cases hj : j < i
  ·exact ⟨(h.stp j g1 hj x he).1, addsG_sub _ (h.stp j g1 hj x he).2⟩
  ·have : j = i := by omega
   subst this
   have hx := (hxs x).2 he
   refine ⟨ha x hx, ?_⟩
   exact addsG_mem (nmO p false) _ l (exO p (oAt l0 j).c j x) (List.mem_map.2 ⟨x, hx, rfl⟩)
theorem LevX.done (S : Sys p q s) {l0 l : List Org} {lo n : Nat} (h0 : Lev p q s l0 lo n) (h : LevX p q s l0 lo l l0.length) (hlt : lo < l0.length) (hb : ∀ i, lo ≤ i → i < l0.length → ¬ badB p q (oAt l0 i).c) (hf : l0.length ≤ 4000) : Lev p q s l l0.length (n + 1) := by
 obtain ⟨m0, e0⟩ := h.pre
 have hl : l0.length ≤ l.length := by rw [e0, List.length_append]; omega
 have hlen : ∀ i r xs, l0.length ≤ i → i < l.length → Chain l i r xs → xs.length = n + 1 := by
  intro i r xs g1 g2 hc
  obtain ⟨k, k1, k2, k3⟩ := h.src i g1 g2
  cases hc with
  |root hs => omega
  |@step _ j _ xs' hj hs hc' =>
   have : j = k := by omega
   subst this
   obtain ⟨r2, ys, hy⟩ := Chain.ex h0.og j k2
   have hy' : Chain l j r2 ys := by rw [e0]; exact hy.app k2
   obtain ⟨_, e⟩ := hc'.one hy'
   rw [List.length_append, List.length_singleton, e, h0.len j r2 ys k1 k2 hy]
 have hkd0 : ∀ k, KD p q s n k → k ∈ l.map (nmO p false) := fun k hk => by
  rw [e0, List.map_append]
  exact List.mem_append_left _ ((h0.kd k).1 hk)
 refine ⟨hl, h.og, h.dis, fun k => ⟨?_, ?_⟩, fun k => ?_, hlen, fun m hm => ?_, hf, by have := h0.num; omega⟩
 ·rintro ⟨m, c, hm, hw, rfl⟩
  by_cases hmn : m ≤ n
  ·exact hkd0 _ ⟨m, c, hmn, hw, rfl⟩
  ·obtain rfl : m = n + 1 := by omega
   cases hw with
   |@stp _ d x hw he ha =>
    rcases h0.near ⟨n, d, Nat.le_refl _, hw, rfl⟩ with ⟨m, hm, hk⟩ | ⟨i, g1, g2, e⟩
    ·exact hkd0 _ ((hk.step S (hw.rdy S) he ha).mono (by omega))
    ·obtain ⟨y, k1, k2, k3, k4⟩ := can_sim (hw.rdy S) ((h0.wn g1 g2).rdy S) e.symm he
     have := (h.stp i g1 g2 y k1).2
     rw [k2] at this
     rw [k4]
     exact this
 ·intro hk
  obtain ⟨o, ho, rfl⟩ := List.mem_map.1 hk
  obtain ⟨i, hi, rfl⟩ := mem_getDA org0 ho
  by_cases hil : i < l0.length
  ·have e : l.getD i org0 = oAt l0 i := h.same hil
   rw [e]
   exact ((h0.kd _).2 (List.mem_map.2 ⟨_, oAt_mem hil, rfl⟩)).mono (by omega)
  ·obtain ⟨r, xs, hc⟩ := Chain.ex h.og i hi
   have hw := hc.wn h.og hi
   rw [hlen i r xs (by omega) hi hc] at hw
   exact ⟨n + 1, _, Nat.le_refl _, hw, rfl⟩
 ·have et : l.take l0.length = l0 := by rw [e0]; simp
  rw [et, ← h0.kd]
  constructor
  ·rintro ⟨m, hm, hk⟩; exact hk.mono (by omega)
  ·intro hk; exact ⟨n, by omega, hk⟩
 ·by_cases hmn : m < n
  ·exact h0.on m hmn
  ·obtain rfl : m = n := by omega
   refine ⟨fun he => by have := h0.end_iff.1 he; omega, fun hh => ?_, h0.few_iff.2 hf, fun hh => ?_⟩
   ·obtain ⟨i, g1, g2, g3⟩ := (h0.bad_iff S).1 hh
    exact hb i g1 g2 g3
   ·obtain ⟨i, g1, g2, x, g3, g4⟩ := (h0.over_iff S).1 hh
    exact g4 (h.stp i g1 g2 x g3).1
end
end Go.Proofs.YtaeomngmcfdfpaaGreatDoor
