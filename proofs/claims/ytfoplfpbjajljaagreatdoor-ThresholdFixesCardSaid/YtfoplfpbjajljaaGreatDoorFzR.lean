import Derived.Test.YtfoplfpbjajljaaGreatDoorZ1
import Derived.Test.YtfoplfpbjajljaaGreatDoorW3
import Derived.Test.YtfoplfpbjajljaaGreatDoorM3
set_option linter.unusedVariables false
set_option linter.unusedSimpArgs false
namespace Go.Proofs.YtfoplfpbjajljaaGreatDoor
set_option maxRecDepth 100000
set_option maxHeartbeats 16000000
def szdE (p : Pro) (s : Siz) : Int := if ¬ admB p s then 8 else if 8 < s.n then 4 else 0
def lszE (p : Pro) (q : Prp) (s : Siz) : Int := if propE p q ≠ 0 then propE p q else if szdE p s ≠ 0 then szdE p s else chkE p q
def fixT (t : LSys) (vals : List Int) : Nat → LSys × Int
 |0 => (t, 0)
 |i + 1 => if (fixT t vals i).2 ≠ 0 then fixT t vals i else subX (fixT t vals i).1 i (vals.getD i 0)
def szV (s : Siz) : List Int := [s.n, s.t, s.f]
noncomputable def fixA (p : Pro) (q : Prp) (sch : List Int) (number : Int) (s : Siz) : AV :=
 if lszE p q s ≠ 0 then .tup [.agg [.int .i64 0, .nilsl], .int .i64 (lszE p q s)]
 else if ¬ schB (thrL p.rules).length sch ∨ number < -1 ∨ (csN p q : Int) ≤ number then .tup [.agg [.int .i64 0, .nilsl], .int .i64 1]
 else if (fixT (sysB p q sch number) (szV s) 3).2 ≠ 0 then .tup [.agg [.int .i64 0, .nilsl], .int .i64 (fixT (sysB p q sch number) (szV s) 3).2]
 else .tup [.agg (encSy (fixT (sysB p q sch number) (szV s) 3).1), .int .i64 0]
theorem fixT_stop {t : LSys} {vals : List Int} {i : Nat} (h : (fixT t vals i).2 ≠ 0) : ∀ j, i ≤ j → fixT t vals j = fixT t vals i := by
 intro j hj
 induction j with
 |zero => rw [Nat.le_zero.1 hj]
 |succ j ih =>
  by_cases e : i = j + 1
  ·rw [e]
  ·rw [fixT, ih (by omega), if_pos h]
theorem fixT_up {t : LSys} {vals : List Int} {i : Nat} (h : (fixT t vals i).2 = 0) : fixT t vals (i + 1) = subX (fixT t vals i).1 i (vals.getD i 0) := by rw [fixT, if_neg (fun x => x h)]
theorem fixT_ok {t : LSys} {vals : List Int} (ht : sysE t = 0) : ∀ {i : Nat}, (fixT t vals i).2 = 0 → sysE (fixT t vals i).1 = 0
 |0, _ => ht
 |i + 1, h => by
  by_cases h0 : (fixT t vals i).2 ≠ 0
  ·rw [fixT, if_pos h0] at h
   exact absurd h h0
  ·have h0 : (fixT t vals i).2 = 0 := Classical.not_not.1 h0
   rw [fixT_up h0] at h ⊢
   unfold subX at h ⊢
   by_cases he : subE (fixT t vals i).1 i (vals.getD i 0) = 0
   ·rw [if_pos he]
    exact subE_valid he
   ·rw [if_neg he] at h
    exact absurd h he
theorem sub_ans (f : FuncId) {s : LSys} {v a : Int} (h : PSpec Tryz.prog f [.agg (encSy s), .int .i64 v, .int .i64 a] (fun u => u = .tup [.agg (if subE s v a = 0 then encSy (subS s v.toNat a) else [.int .i64 0, .nilsl]), .int .i64 (subE s v a)])) :
  (subE s v a = 0 → PSpec Tryz.prog f [.agg (encSy s), .int .i64 v, .int .i64 a] (fun u => u = .tup [.agg (encSy (subX s v a).1), .int .i64 0])) ∧ (subE s v a ≠ 0 → PSpec Tryz.prog f [.agg (encSy s), .int .i64 v, .int .i64 a] (fun u => u = .tup [.agg [.int .i64 0, .nilsl], .int .i64 (subX s v a).2])) := by
 refine ⟨fun h0 => ?_, fun h0 => ?_⟩
 ·rw [if_pos h0, h0] at h
  unfold subX
  rw [if_pos h0]
  exact h
 ·rw [if_neg h0] at h
  unfold subX
  rw [if_neg h0]
  exact h
theorem subX_e {s : LSys} {v a : Int} : (subX s v a).2 = subE s v a := by
 unfold subX
 split
 ·rename_i h; exact h.symm
 ·rfl
theorem fixT_last {t : LSys} {vals : List Int} {i n : Nat} (h : (fixT t vals i).2 = 0) (he : subE (fixT t vals i).1 i (vals.getD i 0) ≠ 0) (hn : i < n) : (fixT t vals n).2 = subE (fixT t vals i).1 i (vals.getD i 0) := by
 have h1 : (fixT t vals (i + 1)).2 = subE (fixT t vals i).1 i (vals.getD i 0) := by rw [fixT_up h, subX_e]
 rw [fixT_stop (i := i + 1) (by rw [h1]; exact he) n (by omega), h1]
theorem sizedF (p : Pro) (s : Siz) (hp : okP p) (hv : validE p = 0) : PSpec Tryz.prog 95 [.agg (encP p), .agg (encZ s)] (fun u => u = .int .i64 (szdE p s)) := by
 have hb := not_big hv
 have hV := validateF p hp
 rw [hv] at hV
 refine PSpec.intro tt_ok mx_ok Tryz.func95 rfl (by decide) ?_; (conv => whnf)
 refine boxP rfl ?_
 conv => whnf
 refine boxP rfl ?_
 conv => whnf
 (refine oP (hV) ?_; conv => whnf)
 repeat' ((first|refine nI ?_|refine aI ?_|refine tI ?_|refine fI ?_|fail);conv => whnf)
 refine dC (admissibleF p s hb hv) (fun _ => ?_) (fun _ => ?_) <;> (conv => whnf)
 ·rename_i h
  refine cmpI ?_ ?_ <;> (intro h2; conv => whnf)
  ·exact ⟨avI (by unfold szdE; rw [if_neg (fun x => x h), if_pos (by omega)]), rfl⟩
  ·exact ⟨avI (by unfold szdE; rw [if_neg (fun x => x h), if_neg (by omega)]), rfl⟩
 ·rename_i h
  exact ⟨avI (by unfold szdE; rw [if_pos h]), rfl⟩
theorem loadSizedF (p : Pro) (q : Prp) (s : Siz) (hp : okP p) (hq : okQ q) : PSpec Tryz.prog 52 [.agg (encP p), .agg (encQ q), .agg (encZ s)] (fun u => u = if lszE p q s = 0 then .tup [.pd (famC p q), .int .i64 0] else .tup [.val (.pointer none), .int .i64 (lszE p q s)]) := by
 refine PSpec.intro tt_ok mx_ok Tryz.func52 rfl (by decide) ?_; (conv => whnf)
 refine boxP rfl ?_
 conv => whnf
 refine boxP rfl ?_
 conv => whnf
 refine boxP rfl ?_
 conv => whnf
 (refine oP (propertyF p q hp hq) ?_; conv => whnf)
 refine cmpI ?_ ?_ <;> (intro h; conv => whnf)
 ·have e : lszE p q s = propE p q := by unfold lszE; rw [if_pos h]
  rw [e, if_neg h]
  exact ⟨rfl, rfl⟩
 have h0 : propE p q = 0 := Classical.not_not.1 h
 (refine oP (sizedF p s hp (vlq_of h0).vld) ?_; conv => whnf)
 refine cmpI ?_ ?_ <;> (intro h1; conv => whnf)
 ·have e : lszE p q s = szdE p s := by unfold lszE; rw [if_neg h, if_pos h1]
  rw [e, if_neg h1]
  exact ⟨rfl, rfl⟩
 have e : lszE p q s = chkE p q := by unfold lszE; rw [if_neg h, if_neg h1]
 rw [e]
 refine Spec.of_pure (n := 5) (loadF p q hp hq) (by rfl) ?_
 rintro _ rfl
 by_cases h2 : chkE p q = 0
 ·rw [if_pos h2, loadA_z h2]
  conv => whnf
  exact ⟨rfl, rfl⟩
 ·rw [if_neg h2, loadA_e rfl h2]
  conv => whnf
  exact ⟨rfl, rfl⟩
theorem lsz_chk {p : Pro} {q : Prp} {s : Siz} (h : lszE p q s = 0) : chkE p q = 0 := by
 unfold lszE at h
 by_cases h1 : propE p q ≠ 0
 ·rw [if_pos h1] at h; exact absurd h h1
 ·rw [if_neg h1] at h
  by_cases h2 : szdE p s ≠ 0
  ·rw [if_pos h2] at h; exact absurd h h2
  ·rw [if_neg h2] at h; exact h
theorem FixF (p : Pro) (q : Prp) (hp : okP p) (hq : okQ q) (sch : List Int) (hl : sch.length ≤ 140737488355328) (number : Int) (s : Siz) : PSpec Tryz.prog 26 [.agg (encP p), .agg (encQ q), .sl 0 encI sch, .int .i64 number, .agg (encZ s)] (fun u => u = fixA p q sch number s) := by
 have he := fixA.eq_1 p q sch number s
 have hL := loadSizedF p q s hp hq
 refine PSpec.intro tt_ok mx_ok Tryz.func26 rfl (by decide) ?_; (conv => whnf)
 refine boxP rfl ?_
 conv => whnf
 refine boxP rfl ?_
 conv => whnf
 refine boxP rfl ?_
 conv => whnf
 by_cases h : lszE p q s = 0
 rotate_left
 ·rw [if_neg h] at hL
  rw [if_pos h] at he
  (refine oP (hL) ?_; conv => whnf)
  refine cmpT h ?_
  conv => whnf
  exact ⟨he.symm, rfl⟩
 rw [if_pos h] at hL
 rw [if_neg (fun x => x h)] at he
 have hk := lsz_chk h
 have hcs := chk_cs hk
 (refine oP (hL) ?_; conv => whnf)
 repeat' ((first|refine nI ?_|refine aI ?_|refine tI ?_|refine fI ?_|fail);conv => whnf)
 refine dC (isSchemaF p q sch hl) (fun _ => ?_) (fun _ => ?_) <;> (conv => whnf)
 rotate_left
 ·rename_i hs
  rw [if_pos (.inl hs)] at he
  exact ⟨he.symm, rfl⟩
 rename_i hs
 refine cmpI ?_ ?_ <;> (intro h1; conv => whnf)
 ·rw [if_pos (.inr (.inl h1))] at he
  exact ⟨he.symm, rfl⟩
 refine cmpI ?_ ?_ <;> (intro h2; conv => whnf)
 ·rw [if_pos (.inr (.inr (by omega)))] at he
  exact ⟨he.symm, rfl⟩
 rw [if_neg (fun hh => by rcases hh with hh | hh | hh; exact hh hs; omega; omega)] at he
 have hB := buildT p q (chk_prop hk) sch hs number (by omega)
 have hok := sysB_ok (chk_prop hk) hs number
 obtain ⟨t, ht⟩ : ∃ t, t = sysB p q sch number := ⟨_, rfl⟩
 have hB : PSpec Tryz.prog 47 [.pd (famC p q), .sl 0 encI sch, .int .i64 number] (fun u => u = .agg (encSy t)) := by
  rw [ht]
  exact hB
 rw [← ht] at he hok
 clear ht
 (refine oP (hB) ?_; conv => whnf)
 refine WPc.loopF tt_ok mx_ok (fun i : Nat => i ≤ 3 ∧ (fixT t (szV s) i).2 = 0) (fun i => [(57, .int .i64 (i : Int)), (13, .int .i64 0)]) (fun i => [(10, .box 56 [.int .i64 0, .nilsl]), (14, .box 56 (encSy (fixT t (szV s) i).1)), (55, .row 3 0 encI (szV s))]) (fun i => 3 - i) 0 ⟨Nat.zero_le _, rfl⟩ ?_; conv => whnf
 refine ⟨sI, ?_⟩
 rintro i ⟨hi, hz⟩
 have hv := fixT_ok (vals := szV s) hok hz
 conv => whnf
 refine cmpI ?_ ?_ <;> (intro h3; conv => whnf)
 ·refine needI (by show 0 ≤ (i : Int) ∧ (i : Int) < ((szV s).length : Int); show 0 ≤ (i : Int) ∧ (i : Int) < 3; omega) ?_
  rw [tN]
  conv => whnf
  obtain ⟨hA0, hA1⟩ := sub_ans 53 (SubstituteF (fixT t (szV s) i).1 i ((szV s).getD i 0) (okS_valid hv))
  by_cases hs0 : subE (fixT t (szV s) i).1 i ((szV s).getD i 0) = 0
  ·(refine oP (hA0 hs0) ?_; conv => whnf)
   repeat' ((first|refine nI ?_|refine aI ?_|refine tI ?_|refine fI ?_|fail);conv => whnf)
   refine ⟨i + 1, ?_, ⟨by omega, ?_⟩, by dsimp only; omega⟩
   ·dsimp only
    rw [fixT_up hz]
    exact sI
   ·rw [fixT_up hz, subX_e]
    exact hs0
  ·have h5 := fixT_last hz hs0 (show i < 3 by omega)
   rw [if_pos (by rw [h5]; exact hs0), h5] at he
   have hA := hA1 hs0
   rw [subX_e] at hA
   (refine oP (hA) ?_; conv => whnf)
   refine cmpT hs0 ?_
   conv => whnf
   exact ⟨he.symm, rfl⟩
 ·obtain rfl : i = 3 := by omega
  rw [if_neg (fun x => x hz)] at he
  exact ⟨he.symm, rfl⟩
end Go.Proofs.YtfoplfpbjajljaaGreatDoor
