import Derived.Test.YtaeomngmcfdfpaaGreatDoorMH
import Derived.Test.YtaeomngmcfdfpaaGreatDoorMI
import Derived.Test.YtaeomngmcfdfpaaGreatDoorMG
set_option linter.unusedVariables false
set_option linter.unusedSimpArgs false
namespace Go.Proofs.YtaeomngmcfdfpaaGreatDoor
set_option maxRecDepth 100000
set_option maxHeartbeats 16000000
def srO (l : List Org) : List Int := l.map fun o => o.src
def stO (l : List Org) : List Stp := l.map fun o => o.st
theorem srO_get (l : List Org) (k : Nat) : (srO l).getD k 0 = (l.getD k org0).src := by
 unfold srO
 rw [gD, gD, List.getElem?_map]
 cases l[k]? <;> rfl
theorem stO_get (l : List Org) (k : Nat) : (stO l).getD k stp0 = (l.getD k org0).st := by
 unfold stO
 rw [gD, gD, List.getElem?_map]
 cases l[k]? <;> rfl
theorem srO_len (l : List Org) : (srO l).length = l.length := by unfold srO; rw [List.length_map]
theorem stO_len (l : List Org) : (stO l).length = l.length := by unfold stO; rw [List.length_map]
def bxT (c : Cfg) (n : Nat) : Blk := .box 40 [.sl 0 encI c.shape, .sl 0 encI c.states, .int .i64 c.correct, .sl 0 encI c.sent, .sl 0 encI c.faulty, .int .i64 c.value, .row 1001 n 3]
theorem pathR (l : List Org) (i r : Nat) (xs : List Stp) (hc : Chain l i r xs) (hi : i < l.length) (hl : l.length ≤ 100000000) (hw : wideB (oAt l r).c = false) :
  PSpec Tryz.prog 46 [.sl cfg0 encC (cfO l), .sl 0 encI (srO l), .sl stp0 encX (stO l), .int .i64 (i : Int)] (fun u => u = .agg (encRn ⟨(oAt l r).c, xs⟩)) := by
 have hxl := hc.len_le
 have n1 := cfO_len l
 have n2 := srO_len l
 have n3 := stO_len l
 refine PSpec.intro tt_ok mx_ok Tryz.func46 rfl (by decide) ?_; (conv => whnf)
 refine WPc.loopF tt_ok mx_ok (fun z : Nat × List Stp => z.1 < l.length ∧ z.2.length + z.1 ≤ i ∧ ∃ ys, Chain l z.1 r ys ∧ xs = ys ++ z.2.reverse) (fun z => [(3, .int .i64 (z.1 : Int)), (9, .row 1000 z.2.length 3)]) (fun z => [(1000, rowX z.2), (8, bxR0)]) (fun z => z.1) (i, []) ⟨hi, by simp, xs, hc, by simp⟩ ?_; conv => whnf
 refine ⟨Sub.by_ [(1000, .nil 3), (8, .old 8)] _ 400 rfl (auto_) (auto_), ?_⟩
 rintro ⟨k, acc⟩ ⟨h1, h2, ys, h3, h4⟩
 dsimp only at h1 h2 h3 h4 ⊢
 conv => whnf
 refine nI ?_
 rw [tN]
 conv => whnf
 rw [srO_get]
 refine cmpI ?_ ?_ <;> (intro g1; conv => whnf)
 ·cases h3 with
  |root hs =>
   exfalso
   have hs' : (l.getD _ org0).src = -1 := hs
   omega
  |@step _ j _ ys' hj hs h3' =>
   have hs' : (l.getD k org0).src = (j : Int) := hs
   refine nI ?_
   rw [tN]
   conv => whnf
   rw [stO_get]
   refine bldI stp0 encX [(l.getD k org0).st] rfl ?_
   conv => whnf
   refine appI [(l.getD k org0).st] rfl lI ?_
   conv => whnf
   refine nI ?_
   rw [tN]
   conv => whnf
   rw [srO_get, hs']
   refine ⟨(j, acc ++ [(l.getD k org0).st]), ?_, ⟨by dsimp only; omega, by simp only [List.length_append, List.length_singleton]; omega, ys', h3', ?_⟩, by dsimp only; omega⟩
   ·dsimp only
    exact Sub.by_ [(1000, .old 23), (8, .old 8)] _ 400 rfl (auto_) (auto_)
   ·rw [h4]
    simp
 ·have hkr : k = r ∧ xs = acc.reverse := by
   cases h3 with
   |root hs => exact ⟨rfl, by simpa using h4⟩
   |step hj hs _ =>
    exfalso
    have hs' : (l.getD k org0).src = _ := hs
    omega
  obtain ⟨rfl, hx⟩ := hkr
  have hlen : acc.length = xs.length := by rw [hx, List.length_reverse]
  refine nI ?_
  rw [tN]
  conv => whnf
  rw [cfO_get]
  (refine oP (copyR (oAt l k).c hw) ?_; conv => whnf)
  repeat' ((first|refine nI ?_|refine aI ?_|refine tI ?_|refine fI ?_|fail);conv => whnf)
  refine WPc.loopF tt_ok mx_ok (fun m : Nat => m ≤ acc.length) (fun m => [(11, .int .i64 ((acc.length : Int) - 1 - m))]) (fun m => [(10, bxT (oAt l k).c (xs.take m).length), (1001, rowX (xs.take m)), (1000, rowX acc), (8, bxR0)]) (fun m => acc.length - m) 0 (Nat.zero_le _) ?_; conv => whnf
  refine ⟨Sub.by_ [(10, .old 10), (1001, .nil 3), (1000, .old 1000), (8, .old 8)] _ 400 rfl (auto_) (auto_), ?_⟩
  rintro m hm
  conv => whnf
  refine cmpI ?_ ?_ <;> (intro g2; conv => whnf)
  ·have hml : m < xs.length := by omega
   have hup := takeX_up hml
   have hget : acc.getD (acc.length - 1 - m) stp0 = xs.getD m stp0 := by
    rw [hx, gD, gD, List.getElem?_reverse (by omega)]
   have htl : (xs.take m).length = m := by rw [List.length_take]; omega
   refine drawG (by decide +kernel) ?_
   conv => whnf
   refine nI ?_
   rw [show ((acc.length : Int) - 1 - (m : Int)).toNat = acc.length - 1 - m by omega]
   conv => whnf
   rw [hget]
   refine bldI stp0 encX [xs.getD m stp0] rfl ?_
   conv => whnf
   refine leakN ?_
   conv => whnf
   refine appI [xs.getD m stp0] rfl lI ?_
   conv => whnf
   repeat' ((first|refine nI ?_|refine aI ?_|refine tI ?_|refine fI ?_|fail);conv => whnf)
   refine ⟨m + 1, ?_, by omega, by dsimp only; omega⟩
   dsimp only
   rw [hup]
   exact Sub.by_ [(10, .old 10), (1001, .old 48), (1000, .old 1000), (8, .old 8)] _ 400 rfl (auto_) (auto_)
  ·have e : xs.take m = xs := List.take_of_length_le (by omega)
   rw [e]
   exact ⟨rfl, rfl⟩
theorem adC_nm {g : Org → Cfg} (l : List Org) (o : Org) : adC (l.map g) (g o) = (addG g l o).map g := by
 by_cases h : g o ∈ l.map g
 ·rw [adC_yes h, addG_yes g h]
 ·rw [adC_no h, addG_no g h, List.map_append, List.map_singleton]
structure SeD (p : Pro) (s : Siz) (l : List Org) (o : List Int) : Prop where
 sp : SpI (l.map (nmO p false)) o
 wide : ∀ c ∈ l.map (nmO p false), wideB c = false
theorem SeD.add {p : Pro} {s : Siz} {l : List Org} {o o' : List Int} (h : SeD p s l o) {x : Org} (hr : Rdy p s x.c) (hs : SpI (adC (l.map (nmO p false)) (canC p x.c)) o') : SeD p s (addG (nmO p false) l x) o' := by
 have e : adC (l.map (nmO p false)) (canC p x.c) = (addG (nmO p false) l x).map (nmO p false) := adC_nm (g := nmO p false) l x
 rw [e] at hs
 refine ⟨hs, fun c hc => ?_⟩
 obtain ⟨y, hy, rfl⟩ := List.mem_map.1 hc
 rcases addG_of _ hy with h1 | h1
 ·exact h.wide _ (List.mem_map.2 ⟨y, h1, rfl⟩)
 ·rw [h1]
  show wideB (canC p x.c) = false
  rw [canC_wide]
  exact hr.wide
def dsM (p : Pro) (l : List Org) (o : List Int) : List (Nat × Blk) := [(6, bxR0), (12, bxP 7002 7003 (l.map (nmO p false)).length o.length), (7002, rowC (l.map (nmO p false))), (7003, rowN o), (1013, rowC (cfO l)), (1014, rowN (srO l)), (1015, rowX (stO l))]
def dsF (l : List Org) : List (Nat × AV) := [(13, .row 1013 (cfO l).length 6), (14, .row 1014 (srO l).length 1), (15, .row 1015 (stO l).length 3)]
theorem ds_snoc (l : List Org) (o : Org) : cfO (l ++ [o]) = cfO l ++ [o.c] ∧ srO (l ++ [o]) = srO l ++ [o.src] ∧ stO (l ++ [o]) = stO l ++ [o.st] := by
 unfold cfO srO stO
 simp
def lmD (a b c d e : Nat) : LMap := [(6, .old 6), (12, .old 12), (7002, .old a), (7003, .old b), (1013, .old c), (1014, .old d), (1015, .old e)]
theorem ShortestR (p : Pro) (q : Prp) (s : Siz) (hp : ¬ bigP p) (hq : ¬ bigQ q) : PSpec Tryz.prog 21 [.agg (encP p), .agg (encQ q), .agg (encZ s)] (shU (ShA p q s)) := by
 refine PSpec.sh ?_
 refine PSpec.intro tt_ok mx_ok Tryz.func21 rfl (by decide) ?_; (conv => whnf)
 refine boxP rfl ?_
 conv => whnf
 refine boxP rfl ?_
 conv => whnf
 refine boxP rfl ?_
 conv => whnf
 (refine oP (sizedPropertyR p q s hp hq) ?_; conv => whnf)
 refine cmpI ?_ ?_ <;> (intro h1; conv => whnf)
 ·exact ⟨.inr ⟨false, sizQ p q s, rfl, fun _ => ⟨rfl, rfl, rfl⟩, fun h => absurd h h1, fun h => absurd h h1⟩, rfl⟩
 have S : Sys p q s := ⟨hp, hq, by omega⟩
 refine cmpI ?_ ?_ <;> (intro h2; conv => whnf)
 ·exact ⟨.inr ⟨false, 7, rfl, fun h => absurd S.hz h, fun _ _ => ⟨rfl, rfl, rfl⟩, fun _ h => absurd h h2⟩, rfl⟩
 have hk1 : q.kind = 1 := by omega
 have hok := (prop_ok S.siz.1 hk1).2
 have fin : ∀ {r is e}, ShB p q s r is e → ShA p q s r is e := fun hB => ⟨fun h => absurd S.hz h, fun _ h => absurd hk1 h, fun _ _ => hB⟩
 have hI := initialR p q s hp hq S.siz.1 S.siz.2
 by_cases hi : iniK p q s
 case neg =>
  have hB : ShB p q s rn0 false 4 := ⟨fun _ => rfl, fun hh => (by cases hh), .inl ⟨hi, rfl, rfl⟩⟩
  rw [iniD_no hi] at hI
  refine Spec.of_pure (n := 5) hI rfl ?_
  rintro _ (rfl | ⟨rfl, _⟩)
  ·conv => whnf
   exact ⟨.inr ⟨false, 4, rfl, fin hB⟩, rfl⟩
  ·conv => whnf
   exact ⟨.inr ⟨false, 4, rfl, fin hB⟩, rfl⟩
 rw [iniD_yes hi] at hI
 refine Spec.of_pure (n := 5) hI rfl ?_
 rintro _ (rfl | ⟨_, h2⟩)
 case inr =>
  have := congrArg Prod.snd h2
  cases this
 have hX := iniX_le S hi
 have hXr := fun k (hk : k < (iniX p q s).length) => S.rdy ((iniX_mem S).1 (getD_memA cfg0 hk))
 have hZ : Lev p q s (addsG (nmO p false) [] ((iniX p q s).map fun c => ⟨c, -1, stp0⟩)) 0 0 := Lev.zero (iniX p q s) fun c => iniX_mem S
 generalize iniX p q s = cs at hX hXr hZ ⊢
 conv => whnf
 refine WPc.loopF tt_ok mx_ok (fun z : Nat × List Int => z.1 ≤ cs.length ∧ SeD p s (addsG (nmO p false) [] ((cs.take z.1).map fun c => ⟨c, -1, stp0⟩)) z.2) (fun z => (16, .int .i64 (z.1 : Int)) :: dsF (addsG (nmO p false) [] ((cs.take z.1).map fun c => ⟨c, -1, stp0⟩))) (fun z => dsM p (addsG (nmO p false) [] ((cs.take z.1).map fun c => ⟨c, -1, stp0⟩)) z.2) (fun z => cs.length - z.1) (0, []) ⟨Nat.zero_le _, ⟨SpI.nil, fun c hc => absurd hc List.not_mem_nil⟩⟩ ?_; conv => whnf
 refine ⟨Sub.by_ [(6, .old 6), (12, .old 12), (7002, .nil 6), (7003, .nil 1), (1013, .nil 6), (1014, .nil 1), (1015, .nil 3)] _ 400 rfl (auto_) (auto_), ?_⟩
 rintro ⟨k, o⟩ ⟨hk, hS⟩
 dsimp only at hk hS ⊢
 conv => whnf
 refine cmpI ?_ ?_ <;> (intro g1; conv => whnf)
 ·have hlt : k < cs.length := by omega
  have hr := hXr k hlt
  have e1 : addsG (nmO p false) [] ((cs.take (k + 1)).map fun c => (⟨c, -1, stp0⟩ : Org)) = addG (nmO p false) (addsG (nmO p false) [] ((cs.take k).map fun c => ⟨c, -1, stp0⟩)) ⟨cs.getD k cfg0, -1, stp0⟩ := by
   rw [takeC_up hlt, List.map_append, List.map_singleton, addsG_snoc]
  have hlen := addsG_len (nmO p false) ((cs.take k).map fun c => (⟨c, -1, stp0⟩ : Org)) []
  rw [List.length_map, List.length_take, List.length_nil] at hlen
  generalize addsG (nmO p false) [] ((cs.take k).map fun c => (⟨c, -1, stp0⟩ : Org)) = l at hS e1 hlen ⊢
  have n1 := cfO_len l
  have n2 := srO_len l
  have n3 := stO_len l
  have n4 : (l.map (nmO p false)).length = l.length := List.length_map ..
  refine drawO (by decide +kernel) ?_
  conv => whnf
  refine nI ?_
  rw [tN]
  conv => whnf
  (refine oP (canonicalR p (cs.getD k cfg0) hr.wide hr.plain) ?_; conv => whnf)
  refine Spec.call (lmE 12) (spM (l.map (nmO p false)) o) 400 rfl (auto_) (auto_) (addR (l.map (nmO p false)) o (canC p (cs.getD k cfg0)) hS.sp (by omega) hS.wide) ?_
  rintro u M' ⟨o', b, h3, h4, rfl, rfl⟩
  have h5 := hS.add (x := ⟨cs.getD k cfg0, -1, stp0⟩) hr h3
  rw [← e1] at h5
  refine ⟨lbE 12, spE 12 (adC (l.map (nmO p false)) (canC p (cs.getD k cfg0))) o', .bool b, rfl, (auto_), rfl, ?_⟩
  have e2 : adC (l.map (nmO p false)) (canC p (cs.getD k cfg0)) = (addG (nmO p false) l ⟨cs.getD k cfg0, -1, stp0⟩).map (nmO p false) := adC_nm (g := nmO p false) l ⟨cs.getD k cfg0, -1, stp0⟩
  rw [e2]
  cases b with
  |true =>
   have e3 : addG (nmO p false) l ⟨cs.getD k cfg0, -1, stp0⟩ = l ++ [⟨cs.getD k cfg0, -1, stp0⟩] := addG_no _ (h4.1 rfl)
   have e4 := ds_snoc l ⟨cs.getD k cfg0, -1, stp0⟩
   rw [e3] at e1 ⊢
   conv => whnf
   refine nI ?_
   rw [tN]
   conv => whnf
   refine bldI cfg0 encC [cs.getD k cfg0] rfl ?_
   conv => whnf
   refine appI [cs.getD k cfg0] rfl lI ?_
   conv => whnf
   refine appI [(-1 : Int)] rfl lI ?_
   conv => whnf
   refine bldI stp0 encX [stp0] rfl ?_
   conv => whnf
   refine appI [stp0] rfl lI ?_
   conv => whnf
   repeat' ((first|refine nI ?_|refine aI ?_|refine tI ?_|refine fI ?_|fail);conv => whnf)
   refine ⟨(k + 1, o'), ?_, ⟨by dsimp only; omega, h5⟩, by dsimp only; omega⟩
   dsimp only
   rw [e1]
   unfold dsF dsM
   rw [e4.1, e4.2.1, e4.2.2]
   exact Sub.by_ (lmD 7004 7005 66 69 73) _ 400 rfl (auto_) (auto_)
  |false =>
   have e3 : addG (nmO p false) l ⟨cs.getD k cfg0, -1, stp0⟩ = l := by
    refine addG_yes _ ?_
    by_cases hm : nmO p false ⟨cs.getD k cfg0, -1, stp0⟩ ∈ l.map (nmO p false)
    ·exact hm
    ·have := h4.2 hm; cases this
   rw [e3] at e1 ⊢
   conv => whnf
   repeat' ((first|refine nI ?_|refine aI ?_|refine tI ?_|refine fI ?_|fail);conv => whnf)
   refine ⟨(k + 1, o'), ?_, ⟨by dsimp only; omega, h5⟩, by dsimp only; omega⟩
   dsimp only
   rw [e1]
   exact Sub.by_ (lmD 7004 7005 1013 1014 1015) _ 400 rfl (auto_) (auto_)
 obtain rfl : k = cs.length := by omega
 rw [List.take_length] at hS ⊢
 have hlen := addsG_len (nmO p false) (cs.map fun c => (⟨c, -1, stp0⟩ : Org)) []
 rw [List.length_map, List.length_nil] at hlen
 generalize addsG (nmO p false) [] (cs.map fun c => (⟨c, -1, stp0⟩ : Org)) = l0 at hS hZ hlen ⊢
 refine WPc.loopF tt_ok mx_ok (fun z : List Org × List Int × Nat × Nat => SeD p s z.1 z.2.1 ∧ Lev p q s z.1 z.2.2.1 z.2.2.2 ∧ z.1.length ≤ 10000000) (fun z => (17, .int .i64 (z.2.2.1 : Int)) :: dsF z.1) (fun z => dsM p z.1 z.2.1) (fun z => 4001 - z.2.2.1) (l0, o, 0, 0) ⟨hS, hZ, by dsimp only; omega⟩ ?_; conv => whnf
 refine ⟨Sub.by_ (lmD 7002 7003 1013 1014 1015) _ 400 rfl (auto_) (auto_), ?_⟩
 clear hS hZ hlen
 rintro ⟨l, o, lo, n⟩ ⟨hS, hZ, hbig⟩
 dsimp only at hS hZ hbig ⊢
 have hle := hZ.le
 have n1 := cfO_len l
 have n2 := srO_len l
 have n3 := stO_len l
 have hrd := fun i (hi : i < l.length) => hZ.og.rdy S hi
 conv => whnf
 refine WPc.loopF tt_ok mx_ok (fun i : Nat => lo ≤ i ∧ i ≤ l.length ∧ ∀ j, lo ≤ j → j < i → ¬ badB p q (oAt l j).c) (fun i => [(19, .int .i64 (i : Int))]) (fun _ => dsM p l o) (fun i => l.length - i) lo ⟨Nat.le_refl _, hle, fun j a b => by omega⟩ ?_; conv => whnf
 refine ⟨Sub.by_ (lmD 7002 7003 1013 1014 1015) _ 400 rfl (auto_) (auto_), ?_⟩
 rintro i ⟨a1, a2, a3⟩
 conv => whnf
 refine cmpI ?_ ?_ <;> (intro g4; conv => whnf)
 ·have hil : i < l.length := by omega
  have hr := hrd i hil
  refine dI ?_
  conv => whnf
  refine nI ?_
  rw [tN]
  conv => whnf
  rw [cfO_get]
  refine dD (badR p q (oAt l i).c hp hq hr.wide hr.plain hok) (fun _ => ?_) (fun _ => ?_) <;> (conv => whnf)
  ·rename_i hb
   obtain ⟨r, xs, hc⟩ := Chain.ex hZ.og i hil
   have hB := ShB.found S hi hk1 hZ a1 hil hb hc
   refine Spec.hand 1013 rfl ?_
   conv => whnf
   refine Spec.hand 1014 rfl ?_
   conv => whnf
   refine Spec.hand 1015 rfl ?_
   conv => whnf
   (refine oP (pathR l i r xs hc hil (by omega) (hB.yes rfl).2.2) ?_; conv => whnf)
   exact ⟨.inl ⟨⟨(oAt l r).c, xs⟩, true, 0, rfl, fin hB⟩, rfl⟩
  ·rename_i hb
   repeat' ((first|refine nI ?_|refine aI ?_|refine tI ?_|refine fI ?_|fail);conv => whnf)
   refine ⟨i + 1, Sub.by_ (lmD 7002 7003 1013 1014 1015) _ 400 rfl (auto_) (auto_), ⟨by omega, by omega, fun j b1 b2 => ?_⟩, by dsimp only; omega⟩
   by_cases hj : j < i
   ·exact a3 j b1 hj
   ·obtain rfl : j = i := by omega
    exact hb
 have hbad : ∀ j, lo ≤ j → j < l.length → ¬ badB p q (oAt l j).c := fun j b1 b2 => a3 j b1 (by omega)
 clear a1 a2 a3 g4
 have hfew := hZ.few
 refine cmpI ?_ ?_ <;> (intro g5; conv => whnf)
 ·exact ⟨.inr ⟨false, 4, rfl, fin (ShB.none_ hi hZ (hZ.manyS S (by omega) hbad (by omega)))⟩, rfl⟩
 refine cmpI ?_ ?_ <;> (intro g6; conv => whnf)
 ·exact ⟨.inr ⟨false, 0, rfl, fin (ShB.none_ hi hZ (hZ.endS (by omega)))⟩, rfl⟩
 have hlo : lo < l.length := by omega
 refine WPc.loopF tt_ok mx_ok (fun z : Nat × List Org × List Int => lo ≤ z.1 ∧ z.1 ≤ l.length ∧ SeD p s z.2.1 z.2.2 ∧ LevX p q s l lo z.2.1 z.1 ∧ z.2.1.length ≤ 4000 + (z.1 - lo) * 2160) (fun z => (20, .int .i64 (z.1 : Int)) :: (74, .top) :: dsF z.2.1) (fun z => dsM p z.2.1 z.2.2) (fun z => l.length - z.1) (lo, l, o) ⟨Nat.le_refl _, hle, hS, LevX.zero hZ, by dsimp only; omega⟩ ?_; conv => whnf
 refine ⟨Sub.by_ (lmD 7002 7003 1013 1014 1015) _ 400 rfl (auto_) (auto_), ?_⟩
 rintro ⟨i, l2, o2⟩ ⟨b1, b2, b3, b4, b5⟩
 dsimp only at b1 b2 b3 b4 b5 ⊢
 conv => whnf
 refine cmpI ?_ ?_ <;> (intro g7; conv => whnf)
 ·have hil : i < l.length := by omega
  have hi2 : i < l2.length := by
   obtain ⟨m2, hm2⟩ := b4.pre
   rw [hm2, List.length_append]
   omega
  have hr := b4.og.rdy S hi2
  have hsame : oAt l2 i = oAt l i := b4.same hil
  have m1 := cfO_len l2
  refine dI ?_
  conv => whnf
  refine nI ?_
  rw [tN]
  conv => whnf
  rw [cfO_get]
  have hst := stA_le8 hr
  obtain ⟨c, hcc⟩ : ∃ c, c = (oAt l2 i).c := ⟨_, rfl⟩
  rw [← hcc] at hr hst ⊢
  (refine oC (stepsR p s c hr) ?_; conv => whnf)
  refine WPc.loopF tt_ok mx_ok (fun z : Nat × List Int => z.1 ≤ (stA p s c p.rules.length).length ∧ SeD p s (addsG (nmO p false) l2 (((stA p s c p.rules.length).take z.1).map (exO p c i))) z.2 ∧ ∀ x ∈ (stA p s c p.rules.length).take z.1, apB c (rulX p x) x) (fun z => (22, .int .i64 (z.1 : Int)) :: (109, .top) :: (111, .top) :: dsF (addsG (nmO p false) l2 (((stA p s c p.rules.length).take z.1).map (exO p c i)))) (fun z => dsM p (addsG (nmO p false) l2 (((stA p s c p.rules.length).take z.1).map (exO p c i))) z.2) (fun z => (stA p s c p.rules.length).length - z.1) (0, o2) ⟨Nat.zero_le _, b3, fun x hx => absurd hx List.not_mem_nil⟩ ?_; conv => whnf
  refine ⟨Sub.by_ (lmD 7002 7003 1013 1014 1015) _ 400 rfl (auto_) (auto_), ?_⟩
  rintro ⟨k, o3⟩ ⟨hk, hS3, hap⟩
  dsimp only at hk hS3 hap ⊢
  conv => whnf
  refine cmpI ?_ ?_ <;> (intro g8; conv => whnf)
  ·have hkl : k < (stA p s c p.rules.length).length := by omega
   have hx := stA_mem.1 (getD_memA stp0 hkl)
   have e3 := takeX_up hkl
   have hlen := addsG_len (nmO p false) (((stA p s c p.rules.length).take k).map (exO p c i)) l2
   rw [List.length_map, List.length_take] at hlen
   have e1 : (addsG (nmO p false) l2 (((stA p s c p.rules.length).take (k + 1)).map (exO p c i))) = addG (nmO p false) (addsG (nmO p false) l2 (((stA p s c p.rules.length).take k).map (exO p c i))) (exO p c i ((stA p s c p.rules.length).getD k stp0)) := by
    rw [e3, List.map_append, List.map_singleton, addsG_snoc]
   have hget : (oAt (addsG (nmO p false) l2 (((stA p s c p.rules.length).take k).map (exO p c i))) i).c = c := by
    obtain ⟨m, hm⟩ := addsG_pre (nmO p false) (((stA p s c p.rules.length).take k).map (exO p c i)) l2
    rw [hm, oAt_app hi2, hcc]
   have hll : i < (addsG (nmO p false) l2 (((stA p s c p.rules.length).take k).map (exO p c i))).length := by
    obtain ⟨m, hm⟩ := addsG_pre (nmO p false) (((stA p s c p.rules.length).take k).map (exO p c i)) l2
    rw [hm, List.length_append]
    omega
   generalize (addsG (nmO p false) l2 (((stA p s c p.rules.length).take k).map (exO p c i))) = l3 at hS3 hlen e1 hget hll ⊢
   have m1 := cfO_len l3
   have m2 := srO_len l3
   have m3 := stO_len l3
   have m4 : (l3.map (nmO p false)).length = l3.length := List.length_map ..
   refine dI ?_
   conv => whnf
   refine nI ?_
   rw [tN]
   conv => whnf
   refine nI ?_
   rw [tN]
   conv => whnf
   rw [cfO_get, hget]
   generalize hxx : (stA p s c p.rules.length).getD k stp0 = x at hx e1 e3 ⊢
   have hA : PSpec Tryz.prog 48 [.agg (encP p), .agg (encC c), .agg (encX x)] (fun u => u = .tup [.agg (encC (apC c (rulX p x) x)), .bool (decide (apB c (rulX p x) x))]) := applyR p s c x hr hx
   by_cases ha : apB c (rulX p x) x
   ·rw [decide_eq_true ha] at hA
    have hn := hr.next hx ha
    change Rdy p s (apC c (rulX p x) x) at hn
    (refine oC (hA) ?_; conv => whnf)
    repeat' ((first|refine nI ?_|refine aI ?_|refine tI ?_|refine fI ?_|fail);conv => whnf)
    (refine oP (canonicalR p (apC c (rulX p x) x) hn.wide hn.plain) ?_; conv => whnf)
    refine Spec.call (lmE 12) (spM (l3.map (nmO p false)) o3) 400 rfl (auto_) (auto_) (addR (l3.map (nmO p false)) o3 (canC p (apC c (rulX p x) x)) hS3.sp (by omega) hS3.wide) ?_
    rintro u M' ⟨o', b, h3, h4, rfl, rfl⟩
    have h5 := hS3.add (x := exO p c i x) hn h3
    rw [← e1] at h5
    refine ⟨lbE 12, spE 12 (adC (l3.map (nmO p false)) (canC p (apC c (rulX p x) x))) o', .bool b, rfl, (auto_), rfl, ?_⟩
    have e2 : adC (l3.map (nmO p false)) (canC p (apC c (rulX p x) x)) = (addG (nmO p false) l3 (exO p c i x)).map (nmO p false) := adC_nm (g := nmO p false) l3 (exO p c i x)
    rw [e2]
    have hap2 : ∀ z ∈ (stA p s c p.rules.length).take (k + 1), apB c (rulX p z) z := fun z hz => by
     rw [e3] at hz
     rcases List.mem_append.1 hz with hz | hz
     ·exact hap z hz
     ·rw [List.mem_singleton] at hz
      subst hz
      exact ha
    cases b with
    |true =>
     have e4 : addG (nmO p false) l3 (exO p c i x) = l3 ++ [exO p c i x] := addG_no _ (h4.1 rfl)
     have e5 := ds_snoc l3 (exO p c i x)
     rw [e4] at e1 ⊢
     conv => whnf
     refine bldI cfg0 encC [apC c (rulX p x) x] rfl ?_
     conv => whnf
     refine appI [apC c (rulX p x) x] rfl lI ?_
     conv => whnf
     refine appI [(i : Int)] rfl lI ?_
     conv => whnf
     refine nI ?_
     rw [tN, hxx]
     conv => whnf
     refine bldI stp0 encX [x] rfl ?_
     conv => whnf
     refine appI [x] rfl lI ?_
     conv => whnf
     repeat' ((first|refine nI ?_|refine aI ?_|refine tI ?_|refine fI ?_|fail);conv => whnf)
     refine ⟨(k + 1, o'), ?_, ⟨by dsimp only; omega, h5, hap2⟩, by dsimp only; omega⟩
     dsimp only
     rw [e1]
     unfold dsF dsM
     rw [e5.1, e5.2.1, e5.2.2]
     exact Sub.by_ (lmD 7004 7005 143 147 154) _ 400 rfl (auto_) (auto_)
    |false =>
     have e4 : addG (nmO p false) l3 (exO p c i x) = l3 := by
      refine addG_yes _ ?_
      by_cases hm : nmO p false (exO p c i x) ∈ l3.map (nmO p false)
      ·exact hm
      ·have := h4.2 hm; cases this
     rw [e4] at e1 ⊢
     conv => whnf
     repeat' ((first|refine nI ?_|refine aI ?_|refine tI ?_|refine fI ?_|fail);conv => whnf)
     refine ⟨(k + 1, o'), ?_, ⟨by dsimp only; omega, h5, hap2⟩, by dsimp only; omega⟩
     dsimp only
     rw [e1]
     exact Sub.by_ (lmD 7004 7005 1013 1014 1015) _ 400 rfl (auto_) (auto_)
   ·rw [decide_eq_false ha] at hA
    (refine oC (hA) ?_; conv => whnf)
    repeat' ((first|refine nI ?_|refine aI ?_|refine tI ?_|refine fI ?_|fail);conv => whnf)
    exact ⟨.inr ⟨false, 4, rfl, fin (ShB.none_ hi hZ (hZ.overS S hbad b1 hil ⟨x, by rw [← hsame, ← hcc]; exact hx, by rw [← hsame, ← hcc]; exact ha⟩))⟩, rfl⟩
  ·obtain rfl : k = (stA p s c p.rules.length).length := by omega
   rw [List.take_length] at hS3 hap ⊢
   have hlen := addsG_len (nmO p false) ((stA p s c p.rules.length).map (exO p c i)) l2
   rw [List.length_map] at hlen
   have hL := b4.next b1 hil (stA p s c p.rules.length) (fun x => by rw [← hsame, ← hcc]; exact stA_mem) (by rw [← hsame, ← hcc]; exact hap)
   rw [← hsame, ← hcc] at hL
   generalize addsG (nmO p false) l2 ((stA p s c p.rules.length).map (exO p c i)) = l3 at hS3 hL hlen ⊢
   repeat' ((first|refine nI ?_|refine aI ?_|refine tI ?_|refine fI ?_|fail);conv => whnf)
   refine ⟨(i + 1, l3, o3), ?_, ⟨by dsimp only; omega, by dsimp only; omega, hS3, hL, by dsimp only; omega⟩, by dsimp only; omega⟩
   dsimp only
   exact Sub.by_ (lmD 7002 7003 1013 1014 1015) _ 400 rfl (auto_) (auto_)
 ·obtain rfl : i = l.length := by omega
  have hN := b4.done S hZ hlo hbad (by omega)
  refine ⟨(l2, o2, l.length, n + 1), ?_, ⟨b3, hN, by dsimp only; omega⟩, by dsimp only; omega⟩
  dsimp only
  exact Sub.by_ (lmD 7002 7003 1013 1014 1015) _ 400 rfl (auto_) (auto_)
end Go.Proofs.YtaeomngmcfdfpaaGreatDoor
