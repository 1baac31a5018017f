import Derived.Test.YtfoplfpbjajljaaGreatDoorY1
import Derived.Test.YtfoplfpbjajljaaGreatDoorX2
import Derived.Test.YtfoplfpbjajljaaGreatDoorX3
import Derived.Test.YtfoplfpbjajljaaGreatDoorFyI
set_option linter.unusedVariables false
set_option linter.unusedSimpArgs false
namespace Go.Proofs.YtfoplfpbjajljaaGreatDoor
open Go.ChangeShapes Go.WideShapes Go.ChangeAt Go.RowKit
def derS2 : Sh := .sl (.int .nil) (.sl (.int .nil) (.int .nil))
def nodS2 : Sh := .sl derS2 (.int (.int (.int (.int .nil))))
def spfS : Sh := .sl (.int .nil) (.int (.sl nodS2 .nil))
def spfsS : Sh := .sl spfS .nil
theorem shSpfs : shOf Tryz.prog 9 68 = some spfsS := by kernel_rfl
theorem bytSpfs : bytB Tryz.prog 9 68 = true := by kernel_rfl
structure Spf where
 sch : List Int
 case_ : Int
 nodes : List Nod
def spf0 : Spf := ⟨[], 0, []⟩
def encSf (x : Spf) : List AV := [.sl 0 encI x.sch, .int .i64 x.case_, .sl nod0 encNo x.nodes]
def derD2 : Den derS2 → Der
 |(a, b, c, _) => ⟨nums a, nums b, c⟩
def nodD2 : Den nodS2 → Nod
 |(a, b, c, d, e, _) => ⟨List.map derD2 a, b, c, d, e⟩
def spfD : Den spfS → Spf
 |(a, b, c, _) => ⟨nums a, b, List.map nodD2 c⟩
def spfsD : Den spfsS → List Spf
 |(a, _) => List.map spfD a
section
variable {S : Store}
theorem cv_der2 (y : Den derS2) : CvL S (encS derS2 y) (encDe (derD2 y)) := by
 obtain ⟨a, b, c, ⟨⟩⟩ := y
 exact ⟨Cv.ints a, Cv.ints b, Cv.refl _ _, trivial⟩
theorem cv_ders2 (l : List (Den derS2)) : Cv S (.sl (dflt derS2) (encS derS2) l) (.sl der0 encDe (l.map derD2)) :=
 Cv.sl (d := dflt derS2) (enc := encS derS2) der0 encDe derD2 fun y _ => ⟨cv_der2 y, rfl⟩
theorem cv_nod2 (y : Den nodS2) : CvL S (encS nodS2 y) (encNo (nodD2 y)) := by
 obtain ⟨a, b, c, d, e, ⟨⟩⟩ := y
 exact ⟨cv_ders2 a, Cv.refl _ _, Cv.refl _ _, Cv.refl _ _, Cv.refl _ _, trivial⟩
theorem cv_nods2 (l : List (Den nodS2)) : Cv S (.sl (dflt nodS2) (encS nodS2) l) (.sl nod0 encNo (l.map nodD2)) :=
 Cv.sl (d := dflt nodS2) (enc := encS nodS2) nod0 encNo nodD2 fun y _ => ⟨cv_nod2 y, rfl⟩
theorem cv_spf (y : Den spfS) : CvL S (encS spfS y) (encSf (spfD y)) := by
 obtain ⟨a, b, c, ⟨⟩⟩ := y
 exact ⟨Cv.ints a, Cv.refl _ _, cv_nods2 c, trivial⟩
theorem rp_spfs {v : Value} (y : Den spfsS) (h : RPs S [v] (encS spfsS y)) : RP S v (.sl spf0 encSf (spfsD y)) := by
 obtain ⟨a, ⟨⟩⟩ := y
 obtain ⟨v', vs, e, h1, _⟩ := h.cons_inv
 injection e with e1 e2
 subst e1
 exact Cv.sl (d := dflt spfS) (enc := encS spfS) spf0 encSf spfD (fun y _ => ⟨cv_spf y, rfl⟩) v h1
end
def okSf (x : Spf) : Prop := x.sch.length ≤ 140737488355328 ∧ okN x.nodes
def okSfs (l : List Spf) : Prop := l.length ≤ 140737488355328 ∧ ∀ x ∈ l, okSf x
theorem okD2_z {y : Den derS2} (h : szS derS2 y) : okD (derD2 y) := by
 obtain ⟨p, q, r, ⟨⟩⟩ := y
 obtain ⟨⟨m1, _⟩, ⟨m2, _⟩, _⟩ := h
 refine ⟨?_, ?_⟩
 ·simp only [derD2, nums_len]; exact m1
 ·simp only [derD2, nums_len]; exact m2
theorem okNo2_z {y : Den nodS2} (h : szS nodS2 y) : (nodD2 y).lines.length ≤ 140737488355328 ∧ ∀ j, j < (nodD2 y).lines.length → okD ((nodD2 y).lines.getD j der0) := by
 obtain ⟨c, d1, d2, d3, d4, ⟨⟩⟩ := y
 obtain ⟨⟨k1, k2⟩, _⟩ := h
 refine ⟨by simp only [nodD2, List.length_map]; exact k1, fun i hi => ?_⟩
 have hi' : i < c.length := by simpa [nodD2] using hi
 have e2 : (nodD2 (c, d1, d2, d3, d4, ())).lines.getD i der0 = derD2 c[i] := by
  rw [getD_elem der0 hi]
  simp [nodD2]
 rw [e2]
 exact okD2_z (k2 _ (List.getElem_mem hi'))
theorem okN2_z {a : List (Den nodS2)} (h1 : a.length ≤ 140737488355328) (h2 : ∀ x ∈ a, szS nodS2 x) : okN (a.map nodD2) := by
 refine ⟨by simp only [List.length_map]; exact h1, fun j hj => ?_⟩
 have hj' : j < a.length := by simpa using hj
 have e : (a.map nodD2).getD j nod0 = nodD2 a[j] := by
  rw [getD_elem nod0 hj]
  simp
 rw [e]
 exact okNo2_z (h2 _ (List.getElem_mem hj'))
theorem okSfs_z {y : Den spfsS} (h : szS spfsS y) : okSfs (spfsD y) := by
 obtain ⟨a, ⟨⟩⟩ := y
 obtain ⟨⟨h1, h2⟩, _⟩ := h
 refine ⟨by simp only [spfsD, List.length_map]; exact h1, fun x hx => ?_⟩
 obtain ⟨z, hz, rfl⟩ := List.mem_map.1 hx
 have hs := h2 z hz
 obtain ⟨c, d, e, ⟨⟩⟩ := z
 obtain ⟨⟨k1, _⟩, ⟨k2, k3⟩, _⟩ := hs
 exact ⟨by simp only [spfD, nums_len]; exact k1, okN2_z k2 k3⟩
end Go.Proofs.YtfoplfpbjajljaaGreatDoor
namespace Go.Proofs.YtfoplfpbjajljaaGreatDoor
set_option maxRecDepth 100000
set_option maxHeartbeats 32000000
theorem list_ext0 {a b : List Int} (hl : a.length = b.length) (h : ∀ i, i < a.length → a.getD i 0 = b.getD i 0) : a = b := by
 apply List.ext_getElem hl
 intro i h1 h2
 have := h i h1
 rwa [getD_elem 0 h1, getD_elem 0 h2] at this
theorem eqIntsF (a b : List Int) (ha : a.length ≤ 140737488355328) (hb : b.length ≤ 140737488355328) : PSpec Tryz.prog 56 [.sl 0 encI a, .sl 0 encI b] (fun u => u = .bool (decide (a = b))) := by
 refine PSpec.intro tt_ok mx_ok Tryz.func56 rfl (by decide) ?_; (conv => whnf)
 refine cmpI ?_ ?_ <;> (intro h; conv => whnf)
 ·exact ⟨dec_f (fun e => h (by rw [e])), rfl⟩
 have hl : a.length = b.length := by omega
 refine WPc.loopF tt_ok mx_ok (fun k : Nat => k ≤ a.length ∧ ∀ i, i < k → a.getD i 0 = b.getD i 0) (fun k => [(13, .int .i64 (k : Int))]) (fun _ => []) (fun k => a.length - k) 0 ⟨Nat.zero_le _, fun j hj => absurd hj (Nat.not_lt_zero _)⟩ ?_; conv => whnf
 refine ⟨sI, ?_⟩
 rintro k ⟨hk, hs⟩
 conv => whnf
 refine cmpI ?_ ?_ <;> (intro h1; conv => whnf)
 ·refine dI ?_
  conv => whnf
  refine nI ?_
  rw [tN]
  conv => whnf
  refine nI ?_
  rw [tN]
  conv => whnf
  refine cmpI ?_ ?_ <;> (intro h2; conv => whnf)
  ·exact ⟨dec_f (fun e => h2 (by rw [e])), rfl⟩
  ·repeat' ((first|refine nI ?_|refine aI ?_|refine arU trivial (by omega) ?_|refine arB trivial (by omega) ?_|refine dI ?_|refine dR ?_|refine dP ?_|refine boxP rfl ?_|refine pI _ rfl ?_|refine rowSetI _ rfl ?_|refine tI ?_|refine fI ?_|refine cmpI (fun _ => ?_) (fun _ => ?_)) <;> conv => whnf)
   refine ⟨k + 1, sI, ⟨by omega, fun i hi => ?_⟩, by dsimp only; omega⟩
   by_cases e : i = k
   ·subst e; exact Classical.not_not.1 h2
   ·exact hs i (by omega)
 ·obtain rfl : k = a.length := by omega
  exact ⟨dec_t (list_ext0 hl hs), rfl⟩
theorem eqIntsR (a b : List Int) (ha : a.length ≤ 140737488355328) (hb : b.length ≤ 140737488355328) : PSpec Tryz.prog 46 [.sl 0 encI a, .sl 0 encI b] (fun u => u = .bool (decide (a = b))) := by
 refine PSpec.intro tt_ok mx_ok Tryz.func46 rfl (by decide) ?_; (conv => whnf)
 refine cmpI ?_ ?_ <;> (intro h; conv => whnf)
 ·exact ⟨dec_f (fun e => h (by rw [e])), rfl⟩
 have hl : a.length = b.length := by omega
 refine WPc.loopF tt_ok mx_ok (fun k : Nat => k ≤ a.length ∧ ∀ i, i < k → a.getD i 0 = b.getD i 0) (fun k => [(5, .int .i64 (k : Int))]) (fun _ => []) (fun k => a.length - k) 0 ⟨Nat.zero_le _, fun j hj => absurd hj (Nat.not_lt_zero _)⟩ ?_; conv => whnf
 refine ⟨sI, ?_⟩
 rintro k ⟨hk, hs⟩
 conv => whnf
 refine cmpI ?_ ?_ <;> (intro h1; conv => whnf)
 ·refine dI ?_
  conv => whnf
  refine nI ?_
  rw [tN]
  conv => whnf
  refine nI ?_
  rw [tN]
  conv => whnf
  refine cmpI ?_ ?_ <;> (intro h2; conv => whnf)
  ·exact ⟨dec_f (fun e => h2 (by rw [e])), rfl⟩
  ·repeat' ((first|refine nI ?_|refine aI ?_|refine arU trivial (by omega) ?_|refine arB trivial (by omega) ?_|refine dI ?_|refine dR ?_|refine dP ?_|refine boxP rfl ?_|refine pI _ rfl ?_|refine rowSetI _ rfl ?_|refine tI ?_|refine fI ?_|refine cmpI (fun _ => ?_) (fun _ => ?_)) <;> conv => whnf)
   refine ⟨k + 1, sI, ⟨by omega, fun i hi => ?_⟩, by dsimp only; omega⟩
   by_cases e : i = k
   ·subst e; exact Classical.not_not.1 h2
   ·exact hs i (by omega)
 ·obtain rfl : k = a.length := by omega
  exact ⟨dec_t (list_ext0 hl hs), rfl⟩
theorem xtL_sch (k : Nat) : ∀ (m : Nat) (at_ : List Int), schB k at_ → ∀ a ∈ xtL k m at_, schB k a
 |0, at_, h, a, ha => by
  rw [xtL, List.mem_singleton] at ha
  subst ha; exact h
 |m + 1, at_, h, a, ha => by
  rw [xtL] at ha
  rcases List.mem_cons.1 ha with rfl | ha
  ·exact h
  ·obtain ⟨i, hi, ha⟩ := List.mem_flatMap.1 ha
   have hi := List.mem_range.1 hi
   split at ha
   ·cases ha
   ·rename_i hn
    exact xtL_sch k m _ (sch_snoc h hi hn) a ha
theorem schL_sch (p : Pro) {i : Nat} (h : i < (schL p).length) : schB (thrL p.rules).length ((schL p).getD i []) := xtL_sch _ _ _ (schB_nil _) _ (mem_getD [] h)
theorem csN_pos (p : Pro) (q : Prp) : 0 < csN p q := by
 unfold csN
 split
 ·exact csK_pos _ _
 ·omega
def accI (p : Pro) (q : Prp) (l : List Spf) (i : Nat) : Prop :=
 ((l.getD i spf0).case_ = ((i % csN p q : Nat) : Int) ∧ (l.getD i spf0).sch = (schL p).getD (i / csN p q) []) ∧ refB (sysB p q ((schL p).getD (i / csN p q) []) ((i % csN p q : Nat) : Int)) (l.getD i spf0).nodes
def accB (p : Pro) (q : Prp) (l : List Spf) : Prop := (chkE p q = 0 ∧ l.length = (schL p).length * csN p q) ∧ ∀ i, i < l.length → accI p q l i
noncomputable instance decAcc (p : Pro) (q : Prp) (l : List Spf) : Decidable (accB p q l) := Classical.propDecidable _
theorem okSf_at {l : List Spf} (h : okSfs l) {i : Nat} (hi : i < l.length) : okSf (l.getD i spf0) := h.2 _ (mem_getD spf0 hi)
theorem schL_len {p : Pro} (hv : validE p = 0) : (schL p).length ≤ 64 := by
 have hT := (vld_of hv).thr
 have a := xtL_len (thrL p.rules).length (thrL p.rules).length []
 have b := pow_k3 (k := (thrL p.rules).length) (m := (thrL p.rules).length) hT hT
 unfold schL
 omega
theorem arE {c : Prop} {n m : Int} {K : Int → Prop} (e : n = m) (hc : c) (h : -9223372036854775808 ≤ m ∧ m ≤ 9223372036854775807) (h' : K m) : arithK c .i64 n K := by subst e; exact arI hc h h'
theorem needU {c : Prop} {u u' : AV} {K : AV → Prop} (h : c) (e : u = u') (hk : forceK u' K) : needK c (forceK u K) := by subst e; exact needI h hk
theorem AcceptF (p : Pro) (q : Prp) (hp : okP p) (hq : okQ q) (l : List Spf) (hl : okSfs l) : PSpec Tryz.prog 28 [.agg (encP p), .agg (encQ q), .sl spf0 encSf l] (fun u => u = .bool (decide (accB p q l))) := by
 have hl1 := hl.1
 refine PSpec.intro tt_ok mx_ok Tryz.func28 rfl (by decide) ?_; (conv => whnf)
 refine boxP rfl ?_
 conv => whnf
 refine boxP rfl ?_
 conv => whnf
 refine Spec.of_pure (n := 5) (loadF p q hp hq) (by rfl) ?_
 rintro _ rfl
 by_cases h0 : chkE p q = 0
 rotate_left
 ·rw [loadA_e rfl h0]
  conv => whnf
  refine cmpT h0 ?_
  conv => whnf
  exact ⟨dec_f (fun hh => h0 hh.1.1), rfl⟩
 rw [loadA_z h0]
 have hq0 := chk_prop h0
 have hv := (vlq_of hq0).vld
 have hT := (vld_of hv).thr
 have hcs := chk_cs h0
 have hc0 := csN_pos p q
 have hsl := schL_len hv
 have hS := schemasF p q (by omega)
 have hD : accB p q l ↔ (l.length = (schL p).length * csN p q ∧ ∀ i, i < l.length → accI p q l i) := ⟨fun h => ⟨h.1.2, h.2⟩, fun h => ⟨⟨h0, h.1⟩, h.2⟩⟩
 have hm : (schL p).length * csN p q ≤ 64 * 64 := Nat.mul_le_mul hsl (by omega)
 have hmz : ((schL p).length : Int) * (csN p q : Int) = (((schL p).length * csN p q : Nat) : Int) := by push_cast; rfl
 have hB := fun (a b : Nat) (ha : a < (schL p).length) (hb : b ≤ 64) => buildT p q hq0 ((schL p).getD a []) (schL_sch p ha) (b : Int) (by omega)
 have hC := fun (a b : Nat) (ha : a < (schL p).length) (nodes : List Nod) (ho : okN nodes) => CheckRefutationF (sysB p q ((schL p).getD a []) (b : Int)) nodes (okS_valid (sysB_ok hq0 (schL_sch p ha) (b : Int))) ho
 have hlen := fun (a : Nat) (ha : a < (schL p).length) => sch_len (schL_sch p ha)
 conv => whnf
 refine fI ?_
 conv => whnf
 (refine oP (hS) ?_; conv => whnf)
 refine arE hmz trivial (by omega) ?_
 conv => whnf
 refine cmpI ?_ ?_ <;> (intro h; conv => whnf)
 ·exact ⟨dec_f (fun hh => h (by rw [(hD.1 hh).1])), rfl⟩
 have hll : l.length = (schL p).length * csN p q := by omega
 refine WPc.loopF tt_ok mx_ok (fun k : Nat => k ≤ l.length ∧ ∀ i, i < k → accI p q l i) (fun k => [(36, .int .i64 (k : Int))]) (fun _ => []) (fun k => l.length - k) 0 ⟨Nat.zero_le _, fun j hj => absurd hj (Nat.not_lt_zero _)⟩ ?_; conv => whnf
 refine ⟨sI, ?_⟩
 rintro k ⟨hk, hs⟩
 conv => whnf
 refine cmpI ?_ ?_ <;> (intro h1; conv => whnf)
 ·have hlt : k < l.length := by omega
  obtain ⟨a, ha⟩ : ∃ a, a = k / csN p q := ⟨_, rfl⟩
  obtain ⟨b, hb⟩ : ∃ b, b = k % csN p q := ⟨_, rfl⟩
  have hI : accI p q l k ↔ (((l.getD k spf0).case_ = (b : Int) ∧ (l.getD k spf0).sch = (schL p).getD a []) ∧ refB (sysB p q ((schL p).getD a []) (b : Int)) (l.getD k spf0).nodes) := by rw [ha, hb]; exact Iff.rfl
  have hal : a < (schL p).length := by rw [ha]; exact Nat.div_lt_of_lt_mul (by rw [Nat.mul_comm]; omega)
  have hbl : b < csN p q := by rw [hb]; exact Nat.mod_lt _ hc0
  have eq1 : ((k : Int).tdiv (csN p q : Int)) = (a : Int) := by rw [ha]; rfl
  have eq2 : AV.int .i64 ((k : Int).tmod (csN p q : Int)) = .int .i64 (b : Int) := by rw [hb]; rfl
  have hok := okSf_at hl hlt
  have hno : ¬ accI p q l k → ¬ accB p q l := fun h hh => h (hh.2 k hlt)
  have hB := hB a b hal (by omega)
  have hC := hC a b hal (l.getD k spf0).nodes hok.2
  have hE := eqIntsF (l.getD k spf0).sch ((schL p).getD a []) hok.1 (by have := hlen a hal; omega)
  unfold encSy sysB at hC
  dsimp only at hC
  refine nI ?_
  rw [tN]
  conv => whnf
  refine dI ?_
  conv => whnf
  refine arE eq1 (by omega) (by omega) ?_
  conv => whnf
  refine nI ?_
  rw [tN]
  conv => whnf
  refine needU (by omega) eq2 ?_
  conv => whnf
  refine dI ?_
  conv => whnf
  refine cmpI ?_ ?_ <;> (intro h2; conv => whnf)
  ·exact ⟨dec_f (hno fun hh => h2 (hI.1 hh).1.1), rfl⟩
  refine dD (hE) (fun _ => ?_) (fun _ => ?_) <;> (conv => whnf)
  case refine_2 => rename_i h3; exact ⟨dec_f (hno fun hh => h3 (hI.1 hh).1.2), rfl⟩
  rename_i h3
  (refine oC (hB) ?_; conv => whnf)
  refine dD (hC) (fun _ => ?_) (fun _ => ?_) <;> (conv => whnf)
  case refine_2 => rename_i h4; exact ⟨dec_f (hno fun hh => h4 (hI.1 hh).2), rfl⟩
  rename_i h4
  repeat' ((first|refine nI ?_|refine aI ?_|refine arU trivial (by omega) ?_|refine arB trivial (by omega) ?_|refine dI ?_|refine dR ?_|refine dP ?_|refine boxP rfl ?_|refine pI _ rfl ?_|refine rowSetI _ rfl ?_|refine tI ?_|refine fI ?_|refine cmpI (fun _ => ?_) (fun _ => ?_)) <;> conv => whnf)
  refine ⟨k + 1, sI, ⟨by omega, fun i hi => ?_⟩, by dsimp only; omega⟩
  by_cases e : i = k
  ·subst e; exact hI.2 ⟨⟨Classical.not_not.1 h2, h3⟩, h4⟩
  ·exact hs i (by omega)
 ·obtain rfl : k = l.length := by omega
  exact ⟨dec_t (hD.2 ⟨hll, hs⟩), rfl⟩
theorem AcceptR (p : Pro) (q : Prp) (hp : okP p) (hq : okQ q) (l : List Spf) (hl : okSfs l) : PSpec Tryz.prog 29 [.agg (encP p), .agg (encQ q), .sl spf0 encSf l] (fun u => u = .bool (decide (accB p q l))) := by
 have hl1 := hl.1
 have hSR := SchemasR p q hp hq
 refine PSpec.intro tt_ok mx_ok Tryz.func29 rfl (by decide) ?_; (conv => whnf)
 refine boxP rfl ?_
 conv => whnf
 refine boxP rfl ?_
 conv => whnf
 by_cases h0 : chkE p q = 0
 rotate_left
 ·rw [schA_e h0] at hSR
  (refine oP (hSR) ?_; conv => whnf)
  refine cmpT h0 ?_
  conv => whnf
  exact ⟨dec_f (fun hh => h0 hh.1.1), rfl⟩
 rw [schA_z h0] at hSR
 have hq0 := chk_prop h0
 have hv := (vlq_of hq0).vld
 have hT := (vld_of hv).thr
 have hcs := chk_cs h0
 have hc0 := csN_pos p q
 have hsl := schL_len hv
 have hD : accB p q l ↔ (l.length = (schL p).length * csN p q ∧ ∀ i, i < l.length → accI p q l i) := ⟨fun h => ⟨h.1.2, h.2⟩, fun h => ⟨⟨h0, h.1⟩, h.2⟩⟩
 have hm : (schL p).length * csN p q ≤ 64 * 64 := Nat.mul_le_mul hsl (by omega)
 have hmz : ((schL p).length : Int) * (csN p q : Int) = (((schL p).length * csN p q : Nat) : Int) := by push_cast; rfl
 have hlen := fun (a : Nat) (ha : a < (schL p).length) => sch_len (schL_sch p ha)
 have hB := fun (a b : Nat) (ha : a < (schL p).length) (hb : b < csN p q) => BuildR p q hp hq ((schL p).getD a []) (by have := hlen a ha; omega) (b : Int)
 have hBe := fun (a b : Nat) (ha : a < (schL p).length) (hb : b < csN p q) => (show bldA p q ((schL p).getD a []) (b : Int) = .tup [.agg [.int .i64 (varL p q ((schL p).getD a [])).length, .sl row0 encRw (rowsB p q ((schL p).getD a []) (b : Int))], .int .i64 0] by
  rw [bldA, if_neg (by omega), if_neg]
  rintro (hh | hh | hh)
  ·exact hh (schL_sch p ha)
  ·omega
  ·omega)
 have hC := fun (a b : Nat) (ha : a < (schL p).length) (nodes : List Nod) (ho : okN nodes) => CheckRefutationR (sysB p q ((schL p).getD a []) (b : Int)) nodes (okS_valid (sysB_ok hq0 (schL_sch p ha) (b : Int))) ho
 (refine oP (hSR) ?_; conv => whnf)
 repeat' ((first|refine nI ?_|refine aI ?_|refine tI ?_|refine fI ?_|fail);conv => whnf)
 (refine oP (casesR p q hv) ?_; conv => whnf)
 refine arE hmz trivial (by omega) ?_
 conv => whnf
 refine cmpI ?_ ?_ <;> (intro h; conv => whnf)
 ·exact ⟨dec_f (fun hh => h (by rw [(hD.1 hh).1])), rfl⟩
 have hll : l.length = (schL p).length * csN p q := by omega
 refine WPc.loopF tt_ok mx_ok (fun k : Nat => k ≤ l.length ∧ ∀ i, i < k → accI p q l i) (fun k => [(10, .int .i64 (k : Int))]) (fun _ => []) (fun k => l.length - k) 0 ⟨Nat.zero_le _, fun j hj => absurd hj (Nat.not_lt_zero _)⟩ ?_; conv => whnf
 refine ⟨sI, ?_⟩
 rintro k ⟨hk, hs⟩
 conv => whnf
 refine cmpI ?_ ?_ <;> (intro h1; conv => whnf)
 ·have hlt : k < l.length := by omega
  obtain ⟨a, ha⟩ : ∃ a, a = k / csN p q := ⟨_, rfl⟩
  obtain ⟨b, hb⟩ : ∃ b, b = k % csN p q := ⟨_, rfl⟩
  have hI : accI p q l k ↔ (((l.getD k spf0).case_ = (b : Int) ∧ (l.getD k spf0).sch = (schL p).getD a []) ∧ refB (sysB p q ((schL p).getD a []) (b : Int)) (l.getD k spf0).nodes) := by rw [ha, hb]; exact Iff.rfl
  have hal : a < (schL p).length := by rw [ha]; exact Nat.div_lt_of_lt_mul (by rw [Nat.mul_comm]; omega)
  have hbl : b < csN p q := by rw [hb]; exact Nat.mod_lt _ hc0
  have eq1 : ((k : Int).tdiv (csN p q : Int)) = (a : Int) := by rw [ha]; rfl
  have eq2 : AV.int .i64 ((k : Int).tmod (csN p q : Int)) = .int .i64 (b : Int) := by rw [hb]; rfl
  have hok := okSf_at hl hlt
  have hno : ¬ accI p q l k → ¬ accB p q l := fun h hh => h (hh.2 k hlt)
  have hB := hB a b hal hbl
  rw [hBe a b hal hbl] at hB
  have hC := hC a b hal (l.getD k spf0).nodes hok.2
  have hE := eqIntsR (l.getD k spf0).sch ((schL p).getD a []) hok.1 (by have := hlen a hal; omega)
  unfold encSy sysB at hC
  dsimp only at hC
  refine dI ?_
  conv => whnf
  refine nI ?_
  rw [tN]
  conv => whnf
  refine arE eq1 (by omega) (by omega) ?_
  conv => whnf
  refine nI ?_
  rw [tN]
  conv => whnf
  refine dD (hE) (fun _ => ?_) (fun _ => ?_) <;> (conv => whnf)
  case refine_2 => rename_i h3; exact ⟨dec_f (hno fun hh => h3 (hI.1 hh).1.2), rfl⟩
  rename_i h3
  refine nI ?_
  rw [tN]
  conv => whnf
  refine needU (by omega) eq2 ?_
  conv => whnf
  refine cmpI ?_ ?_ <;> (intro h2; conv => whnf)
  ·exact ⟨dec_f (hno fun hh => h2 (hI.1 hh).1.1), rfl⟩
  first | refine dI ?_ | refine drawG (by decide +kernel) ?_ | refine drawO (by decide +kernel) ?_
  conv => whnf
  refine arE eq1 (by omega) (by omega) ?_
  conv => whnf
  refine nI ?_
  rw [tN]
  conv => whnf
  refine needU (by omega) eq2 ?_
  conv => whnf
  (refine oC (hB) ?_; conv => whnf)
  refine dI ?_
  conv => whnf
  refine fI ?_
  conv => whnf
  refine nI ?_
  rw [tN]
  conv => whnf
  refine dD (hC) (fun _ => ?_) (fun _ => ?_) <;> (conv => whnf)
  case refine_2 => rename_i h4; exact ⟨dec_f (hno fun hh => h4 (hI.1 hh).2), rfl⟩
  rename_i h4
  repeat' ((first|refine nI ?_|refine aI ?_|refine arU trivial (by omega) ?_|refine arB trivial (by omega) ?_|refine dI ?_|refine dR ?_|refine dP ?_|refine boxP rfl ?_|refine pI _ rfl ?_|refine rowSetI _ rfl ?_|refine tI ?_|refine fI ?_|refine cmpI (fun _ => ?_) (fun _ => ?_)) <;> conv => whnf)
  refine ⟨k + 1, sI, ⟨by omega, fun i hi => ?_⟩, by dsimp only; omega⟩
  by_cases e : i = k
  ·subst e; exact hI.2 ⟨⟨Classical.not_not.1 h2, h3⟩, h4⟩
  ·exact hs i (by omega)
 ·obtain rfl : k = l.length := by omega
  exact ⟨dec_t (hD.2 ⟨hll, hs⟩), rfl⟩
set_option maxHeartbeats 16000000
theorem lawAccepts (p : Pro) (q : Prp) (hp : okP p) (hq : okQ q) (l : List Spf) (hl : okSfs l) : PSpec Tryz.prog 7 [.agg (encPQ p q), .sl spf0 encSf l] (fun u => u = .bool true) := by
 have hF := AcceptF p q hp hq l hl
 have hR := AcceptR p q hp hq l hl
 have hs := saneF
 generalize decide (accB p q l) = c at hF hR
 refine PSpec.intro tt_ok mx_ok Tryz.func7 rfl (by decide) ?_; (conv => whnf)
 refine boxP rfl ?_
 conv => whnf
 apply once6
 case k =>
  intro o1 o2 o3 o4 o5 o6
  refine drawC [0, 1, 2, 3] (by decide +kernel) ?_
  conv => whnf
  repeat' first
   |exact True.intro
   |(refine And.intro ?_ ?_ <;> conv => whnf)
   |with_reducible exact o1
   |with_reducible exact o2
   |with_reducible exact o3
   |with_reducible exact o4
   |with_reducible exact o5
   |with_reducible exact o6
   |fail
 all_goals try first
  |exact True.intro
  |exact True
 all_goals
  refine dI ?_
  conv => whnf
  (refine oC (hF) ?_; conv => whnf)
  (refine oC (hR) ?_; conv => whnf)
  cases c with
  |false =>
   conv => whnf
   (refine oC (hs) ?_; conv => whnf)
   exact ⟨rfl, rfl⟩
  |true =>
   conv => whnf
   (refine oC (hs) ?_; conv => whnf)
   exact ⟨rfl, rfl⟩
end Go.Proofs.YtfoplfpbjajljaaGreatDoor
