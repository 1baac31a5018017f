import Derived.Test.YtaeomngmcfdfpaaGreatDoorMF
import Derived.Test.YtaeomngmcfdfpaaGreatDoorME
import Derived.Test.YtaeomngmcfdfpaaGreatDoorMN
import Derived.Test.YtaeomngmcfdfpaaGreatDoorM4
import Derived.Test.YtaeomngmcfdfpaaGreatDoorMG
import Derived.Test.YtaeomngmcfdfpaaGreatDoorMA
import Derived.Test.YtaeomngmcfdfpaaGreatDoorMD
import Derived.Test.YtaeomngmcfdfpaaGreatDoorMB
import Derived.Test.YtaeomngmcfdfpaaGreatDoorM9
set_option linter.unusedVariables false
set_option linter.unusedSimpArgs false
namespace Go.Proofs.YtaeomngmcfdfpaaGreatDoor
set_option maxRecDepth 100000
set_option maxHeartbeats 16000000
def bxP (a b n m : Nat) : Blk := .box 103 [.row a n 6, .row b m 1]
def spM (l : List Cfg) (o : List Int) : List (Nat × Blk) := [(7001, bxP 7002 7003 l.length o.length), (7002, rowC l), (7003, rowN o)]
def spN (l : List Cfg) (o : List Int) : List (Nat × Blk) := [(7001, bxP 7004 7005 l.length o.length), (7002, .dead), (7003, .dead), (7004, rowC l), (7005, rowN o)]
def lmP : LMap := [(7001, .old 7001), (7002, .old 7002), (7003, .old 7003)]
theorem SpI.at_ {l : List Cfg} {o : List Int} (h : SpI l o) {j : Nat} (hj : j < o.length) : 0 ≤ o.getD j 0 ∧ o.getD j 0 < l.length := by
 have e : o.getD j 0 = o[j] := by rw [gD, gL hj]; rfl
 rw [e]
 exact h.rng _ (List.getElem_mem hj)
theorem placeR (l : List Cfg) (o : List Int) (c : Cfg) (hs : SpI l o) (hl : l.length ≤ 100000000) (hw : ∀ d ∈ l, wideB d = false) :
  Spec Tryz.prog 86 [.ptr 7001 0, .agg (encC c)] (Mem.ofL (spM l o)) (fun u M => ∃ (a : Nat) (is : Bool), PlP l o c a is ∧ u = .tup [.int .i64 (a : Int), .bool is] ∧ M = Mem.ofL (spM l o)) := by
 have hol := hs.len
 have hsl := svL_len l o
 refine Spec.norm 400 (R := fun u M => (∃ (a : Nat) (is : Bool), PlP l o c a is ∧ u = .tup [.int .i64 (a : Int), .bool is]) ∧ memR (idL (spM l o)) 400 M (spM l o)) ?_ ?_
 case refine_2 =>
  rintro u M ⟨⟨a, is, h1, rfl⟩, h2⟩
  exact ⟨_, .tup [.int .i64 (a : Int), .bool is], rfl, h2, (auto_), a, is, h1, rfl, rfl⟩
 refine Spec.intro tt_ok mx_ok (spM l o) Tryz.func86 rfl (by decide) ?_
 conv => whnf
 refine boxP rfl ?_
 conv => whnf
 refine dI ?_
 conv => whnf
 refine WPc.loopF tt_ok mx_ok (fun z : Nat × Nat => z.1 ≤ z.2 ∧ z.2 ≤ o.length ∧ (∀ j, j < z.1 → cmpC ((svL l o).getD j cfg0) c < 0) ∧ ∀ j, z.2 ≤ j → j < o.length → 0 < cmpC ((svL l o).getD j cfg0) c) (fun z => [(6, .int .i64 (z.1 : Int)), (7, .int .i64 (z.2 : Int))]) (fun _ => spM l o) (fun z => z.2 - z.1) (0, o.length) ⟨Nat.zero_le _, Nat.le_refl _, fun j hj => absurd hj (Nat.not_lt_zero _), fun j h1 h2 => absurd h2 (Nat.not_lt.2 h1)⟩ ?_; conv => whnf
 refine ⟨sI, ?_⟩
 rintro ⟨a, b⟩ ⟨h1, h2, h3, h4⟩
 dsimp only at h1 h2 h3 h4 ⊢
 conv => whnf
 refine cmpI ?_ ?_ <;> (intro g1; conv => whnf)
 case refine_2 =>
  obtain rfl : a = b := by omega
  exact ⟨⟨a, false, ⟨h2, h3, (fun h => by cases h), fun _ => h4⟩, rfl⟩, auto_⟩
 have hab : a < b := by omega
 obtain ⟨m, hm⟩ : ∃ m, m = (a + b) / 2 := ⟨_, rfl⟩
 have hmt : ((a : Int) + (b : Int)).tdiv 2 = (m : Int) := by
  rw [Int.tdiv_eq_ediv_of_nonneg (by omega)]
  omega
 have hma : a ≤ m := by omega
 have hmb : m < b := by omega
 refine aI ?_
 conv => whnf
 refine arI (by decide) (by rw [hmt]; omega) ?_
 rw [hmt]
 conv => whnf
 have hr := hs.at_ (j := m) (by omega)
 have hd := svL_get l (o := o) (j := m) (by omega)
 refine dI ?_
 conv => whnf
 refine nI ?_
 rw [tN]
 conv => whnf
 refine nI ?_
 conv => whnf
 have hwd : wideB (l.getD (o.getD m 0).toNat cfg0) = false := hw _ (getD_memA cfg0 (by omega))
 rw [← hd] at hwd ⊢
 (refine oC (compareR ((svL l o).getD m cfg0) c hwd) ?_; conv => whnf)
 refine cmpI ?_ ?_ <;> (intro g2; conv => whnf)
 ·refine ⟨⟨m, true, ⟨by omega, fun j hj => ?_, fun _ => ⟨by omega, g2⟩, (fun h => by cases h)⟩, rfl⟩, auto_⟩
  have e := cmpC_same g2
  have := ascC_lt hs.asc hj (by omega)
  rw [e] at this
  exact this
 refine cmpI ?_ ?_ <;> (intro g3; conv => whnf)
 ·repeat' ((first|refine nI ?_|refine aI ?_|refine tI ?_|refine fI ?_|fail);conv => whnf)
  refine ⟨(m + 1, b), sI, ⟨by dsimp only; omega, h2, fun j hj => ?_, h4⟩, by dsimp only; omega⟩
  dsimp only at hj
  by_cases e : j = m
  ·subst e; exact g3
  ·exact cmpC_trans (ascC_lt hs.asc (show j < m by omega) (by omega)) g3
 ·repeat' ((first|refine nI ?_|refine aI ?_|refine tI ?_|refine fI ?_|fail);conv => whnf)
  refine ⟨(a, m), sI, ⟨hma, by dsimp only; omega, h3, fun j hj1 hj2 => ?_⟩, by dsimp only; omega⟩
  dsimp only at hj1
  by_cases e : j = m
  ·subst e; omega
  ·have k1 := ascC_lt hs.asc (show m < j by omega) (by omega)
   have k2 : cmpC c ((svL l o).getD m cfg0) < 0 := by rw [cmpC_neg]; omega
   have k3 := cmpC_trans k2 k1
   rw [cmpC_neg] at k3
   omega
def shO (o : List Int) (i : Nat) : List Int := (List.range (o.length + 1)).map fun j => if j ≤ i then (o ++ [0]).getD j 0 else o.getD (j - 1) 0
theorem shO_len (o : List Int) (i : Nat) : (shO o i).length = o.length + 1 := by simp [shO]
theorem shO_get (o : List Int) (i : Nat) {j : Nat} (h : j < o.length + 1) : (shO o i).getD j 0 = if j ≤ i then (o ++ [0]).getD j 0 else o.getD (j - 1) 0 := by
 unfold shO
 rw [gD, List.getElem?_map, List.getElem?_range h]
 rfl
theorem ext_getI {l m : List Int} (h : l.length = m.length) (hj : ∀ j, j < l.length → l.getD j 0 = m.getD j 0) : l = m := by
 apply List.ext_getElem h
 intro j h1 h2
 have := hj j h1
 rw [gD, gD, gL h1, gL h2] at this
 exact this
theorem setI_getD (l : List Int) (i : Nat) (x : Int) (j : Nat) (hi : i < l.length) : (l.set i x).getD j 0 = if j = i then x else l.getD j 0 := by
 rw [gD, List.getElem?_set]
 by_cases h : i = j
 ·subst h; rw [if_pos rfl, if_pos hi, if_pos rfl]; rfl
 ·rw [if_neg h, if_neg (fun e => h e.symm), gD]
theorem shO_start (o : List Int) : shO o o.length = o ++ [0] := by
 refine ext_getI (by rw [shO_len]; simp) fun j hj => ?_
 rw [shO_len] at hj
 rw [shO_get o _ hj, if_pos (by omega)]
theorem shO_up {o : List Int} {i : Nat} (h : i + 1 ≤ o.length) : (shO o (i + 1)).set (i + 1) ((shO o (i + 1)).getD i 0) = shO o i := by
 refine ext_getI (by rw [List.length_set, shO_len, shO_len]) fun j hj => ?_
 rw [List.length_set, shO_len] at hj
 rw [setI_getD _ _ _ _ (by rw [shO_len]; omega), shO_get o _ hj, shO_get o _ hj, shO_get o _ (by omega)]
 by_cases h1 : j = i + 1
 ·subst h1
  rw [if_pos rfl, if_pos (by omega), if_neg (by omega), gD, List.getElem?_append_left (by omega), gD]
  rfl
 ·rw [if_neg h1]
  by_cases h2 : j ≤ i
  ·rw [if_pos (by omega), if_pos h2]
  ·rw [if_neg (by omega), if_neg h2]
theorem shO_end {o : List Int} {a : Nat} (x : Int) (h : a ≤ o.length) : (shO o a).set a x = insA o a x := by
 refine ext_getI (by rw [List.length_set, shO_len, insA_len x h]) fun j hj => ?_
 rw [List.length_set, shO_len] at hj
 rw [setI_getD _ _ _ _ (by rw [shO_len]; omega), shO_get o _ hj, insA_get x h]
 by_cases h1 : j = a
 ·subst h1
  rw [if_pos rfl, if_neg (by omega), if_pos rfl]
 ·rw [if_neg h1]
  by_cases h2 : j ≤ a
  ·rw [if_pos h2, if_pos (by omega), gD, List.getElem?_append_left (by omega), gD]
  ·rw [if_neg h2, if_neg (by omega), if_neg h1]
noncomputable def adC (l : List Cfg) (c : Cfg) : List Cfg := addG (fun d : Cfg => d) l c
theorem adC_yes {l : List Cfg} {c : Cfg} (h : c ∈ l) : adC l c = l := addG_yes _ (by rw [List.map_id']; exact h)
theorem adC_no {l : List Cfg} {c : Cfg} (h : c ∉ l) : adC l c = l ++ [c] := addG_no _ (by rw [List.map_id']; exact h)
def spQ (l : List Cfg) (o : List Int) (c : Cfg) (i : Nat) : List (Nat × Blk) := [(7001, bxP 7004 7005 (l.length + 1) (o.length + 1)), (7002, .dead), (7003, .dead), (7004, rowC (l ++ [c])), (7005, rowN (shO o i))]
def lmA : LMap := [(7001, .old 7001), (7002, .old 7002), (7003, .old 7003), (7004, .old 7002), (7005, .old 7003)]
def lmB : LMap := [(7001, .old 7001), (7002, .old 7002), (7003, .old 7003), (7004, .old 7004), (7005, .old 7005)]
theorem addR (l : List Cfg) (o : List Int) (c : Cfg) (hs : SpI l o) (hl : l.length ≤ 100000000) (hw : ∀ d ∈ l, wideB d = false) :
  Spec Tryz.prog 44 [.ptr 7001 0, .agg (encC c)] (Mem.ofL (spM l o)) (fun u M => ∃ (o' : List Int) (b : Bool), SpI (adC l c) o' ∧ (b = true ↔ c ∉ l) ∧ u = .bool b ∧ M = Mem.ofL (spN (adC l c) o')) := by
 have hol := hs.len
 refine Spec.renorm 400 (R := fun u M => ∃ (o' : List Int) (b : Bool), SpI (adC l c) o' ∧ (b = true ↔ c ∉ l) ∧ u = .bool b ∧ (memR lmA 400 M (spN (adC l c) o') ∨ memR lmB 400 M (spN (adC l c) o'))) ?_ ?_
 case refine_2 =>
  rintro u M ⟨o', b, h1, h2, rfl, h3 | h3⟩
  ·exact ⟨lmA, _, .bool b, rfl, h3, rfl, o', b, h1, h2, rfl, rfl⟩
  ·exact ⟨lmB, _, .bool b, rfl, h3, rfl, o', b, h1, h2, rfl, rfl⟩
 refine Spec.intro tt_ok mx_ok (spM l o) Tryz.func44 rfl (by decide) ?_
 conv => whnf
 refine boxP rfl ?_
 conv => whnf
 refine Spec.call lmP (spM l o) 400 rfl (auto_) (auto_) (placeR l o c hs hl hw) ?_
 rintro u M' ⟨a, is, hP, rfl, rfl⟩
 refine ⟨lmP, spM l o, .tup [.int .i64 (a : Int), .bool is], rfl, (auto_), (auto_), ?_⟩
 cases is with
 |true =>
  have hm := (hP.mem hs).1 rfl
  conv => whnf
  refine ⟨o, false, ?_, ⟨(fun h => by cases h), fun h => absurd hm h⟩, rfl, .inl ?_⟩
  ·rw [adC_yes hm]; exact hs
  ·rw [adC_yes hm]; exact (auto_)
 |false =>
  have hm : c ∉ l := fun h => by have := (hP.mem hs).2 h; cases this
  have hle := hP.le
  conv => whnf
  refine drawG (by decide +kernel) ?_
  conv => whnf
  refine bldI cfg0 encC [c] rfl ?_
  conv => whnf
  refine leakN ?_
  conv => whnf
  refine appI [c] rfl lI ?_
  conv => whnf
  refine appI [(0 : Int)] rfl lI ?_
  conv => whnf
  refine arI trivial lI ?_
  conv => whnf
  refine WPc.loopF tt_ok mx_ok (fun i : Nat => a ≤ i ∧ i ≤ o.length) (fun i => [(7, .int .i64 (i : Int)), (21, .top), (22, .top), (30, .top), (31, .top), (37, .top)]) (fun i => spQ l o c i) (fun i => i) o.length ⟨hle, Nat.le_refl _⟩ ?_; conv => whnf
  refine ⟨by unfold spQ; rw [shO_start]; exact Sub.by_ [(7001, .old 7001), (7002, .old 7002), (7003, .old 7003), (7004, .old 22), (7005, .old 31)] _ 400 rfl (auto_) (auto_), ?_⟩
  rintro i ⟨hi1, hi2⟩
  conv => whnf
  refine cmpI ?_ ?_ <;> (intro g1; conv => whnf)
  ·have hup := shO_up (o := o) (i := i - 1) (by omega)
   rw [show i - 1 + 1 = i by omega] at hup
   refine dI ?_
   conv => whnf
   refine aI ?_
   conv => whnf
   refine nI ?_
   rw [show ((i : Int) - 1).toNat = i - 1 by omega]
   conv => whnf
   refine nI ?_
   rw [tN]
   conv => whnf
   refine rowSetI _ rfl ?_
   conv => whnf
   repeat' ((first|refine nI ?_|refine aI ?_|refine tI ?_|refine fI ?_|fail);conv => whnf)
   refine ⟨i - 1, ?_, by omega, by dsimp only; omega⟩
   dsimp only
   unfold spQ
   rw [← hup]
   exact sI
  ·obtain rfl : i = a := by omega
   refine dI ?_
   conv => whnf
   refine aI ?_
   rw [show ((l.length + 1 : Nat) : Int) - 1 = (l.length : Int) by omega]
   conv => whnf
   refine nI ?_
   rw [tN]
   conv => whnf
   refine rowSetI _ rfl ?_
   conv => whnf
   refine ⟨insA o i l.length, true, ?_, ⟨fun _ => hm, fun _ => rfl⟩, rfl, .inr ?_⟩
   ·rw [adC_no hm]; exact hs.ins hP
   ·rw [adC_no hm, ← shO_end _ hle]
    have hlen2 : ((shO o i).set i (l.length : Int)).length = o.length + 1 := by rw [List.length_set, shO_len]
    unfold spN
    rw [hlen2]
    exact (auto_)
theorem takeC_up {l : List Cfg} {k : Nat} (h : k < l.length) : l.take (k + 1) = l.take k ++ [l.getD k cfg0] := by
 have e : l.getD k cfg0 = l[k] := by rw [gD, gL h]; rfl
 rw [List.take_succ_eq_append_getElem h, e]
theorem takeX_up {l : List Stp} {k : Nat} (h : k < l.length) : l.take (k + 1) = l.take k ++ [l.getD k stp0] := by
 have e : l.getD k stp0 = l[k] := by rw [gD, gL h]; rfl
 rw [List.take_succ_eq_append_getElem h, e]
def spE (b : Nat) (l : List Cfg) (o : List Int) : List (Nat × Blk) := [(b, bxP 7004 7005 l.length o.length), (7002, .dead), (7003, .dead), (7004, rowC l), (7005, rowN o)]
def lbE (b : Nat) : LMap := [(b, .old 7001), (7002, .old 7002), (7003, .old 7003), (7004, .old 7004), (7005, .old 7005)]
def lmE (b : Nat) : LMap := [(7001, .old b), (7002, .old 7002), (7003, .old 7003)]
end Go.Proofs.YtaeomngmcfdfpaaGreatDoor
