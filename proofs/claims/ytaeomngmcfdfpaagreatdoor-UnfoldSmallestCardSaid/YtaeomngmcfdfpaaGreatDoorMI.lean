import Derived.Test.YtaeomngmcfdfpaaGreatDoorM8
import Derived.Test.YtaeomngmcfdfpaaGreatDoorMB
set_option linter.unusedVariables false
set_option linter.unusedSimpArgs false
namespace Go.Proofs.YtaeomngmcfdfpaaGreatDoor
set_option maxRecDepth 100000
set_option maxHeartbeats 16000000
theorem asc_all : ∀ m, m ≤ 3 → Asc (shpT (2 * m + 1)) := by
 intro m hm
 match m, hm with
 |0, _ => exact List.pairwise_singleton _ _
 |1, _ => exact (shpT_asc 1 (by decide)).1
 |2, _ => exact (shpT_asc 2 (by decide)).1
 |3, _ => exact (shpT_asc 3 (by decide)).1
theorem copyIntsN : Spec Tryz.prog 85 [.nilsl] (Mem.ofL []) (fun u M => u = .row 5 ([] : List Int).length 1 ∧ M 5 = some (rowN [])) := by
 refine Spec.call (args' := [.sl 0 encI []]) [] [] 400 rfl trivial ⟨rfl, trivial⟩ (copyIntsL [] (by simp)) fun u M' h => ?_
 obtain ⟨h1, h2⟩ := out1 u M' h
 exact ⟨[(5, .old 5)], [(5, rowN [])], .row 5 0 1, rfl, h1, h2, rfl, rfl⟩
theorem initialRt (p : Pro) (q : Prp) (s : Siz) (hp : ¬ bigP p) (hq : ¬ bigQ q) (hv : propE p q = 0) (hz : sizeE p s = 0) (hT : p.topology = 4) : PSpec Tryz.prog 43 [.agg (encP p), .agg (encQ q), .agg (encZ s)] (inU (iniD p q s)) := by
 have hle := bigP_le hp
 have hsz := sizeE_ok hz
 obtain ⟨n, hn⟩ : ∃ n : Nat, modN p s = n := ⟨(modN p s).toNat, by unfold modN; split <;> omega⟩
 have hn8 : n ≤ 8 := by unfold modN at hn; split at hn <;> omega
 have hM := modeledR p s (by omega)
 rw [hn] at hM
 refine PSpec.intro tt_ok mx_ok Tryz.func43 rfl (by decide) ?_; (conv => whnf)
 refine boxP rfl ?_
 conv => whnf
 refine boxP rfl ?_
 conv => whnf
 refine boxP rfl ?_
 conv => whnf
 obtain ⟨m, hm, hsn⟩ := tree_odd hz hT
 have hF0 := shpT_len1 m hm
 have hF1 := (shpT_le (n := 2 * m + 1) (by omega)).1
 have hF2 := (shpT_le (n := 2 * m + 1) (by omega)).2
 have hS := refShapesOdd m hm
 have hasc := asc_all m hm
 have hform : iniF p s = shpT (2 * m + 1) := by unfold iniF; rw [if_pos hT, hsn]; rfl
 rw [← hsn] at hS
 generalize shpT (2 * m + 1) = forms at hF0 hF1 hF2 hS hasc hform
 refine bldI none encO [none] rfl ?_
 conv => whnf
 repeat' ((first|refine nI ?_|refine aI ?_|refine tI ?_|refine fI ?_|fail);conv => whnf)
 refine Spec.of_pure (n := 5) hS rfl ?_
 rintro _ rfl
 dsimp only
 rw [putD_eq]
 dsimp only [setD, List.set]
 simp only [opsK]
 rw [stepK_eq]
 simp only [gv, opnds, List.map_cons, List.map_nil, semK, evM, setD]
 dsimp only [avOf, evR, evN, rsK, List.set]
 rw [forceK_eq]
 dsimp only [List.getD, List.set, codeK, opsK]
 rw [stepK_eq]
 simp only [gv, opnds, List.map_cons, List.map_nil, semK, evM, setD]
 dsimp only [avOf, evR, evN, rsK, List.set, List.getD]
 rw [forceK_eq]
 rw [stepK_eq]
 simp only [gv, opnds, List.map_cons, List.map_nil, semK, evM, setD]
 dsimp only [avOf, List.getD, catK, List.set]
 refine Spec.of_pure (n := 5) (sortIntsAsc forms (by omega) (fun a ha => by have := hF2 a ha; omega) hasc) rfl ?_
 rintro _ rfl
 conv => whnf
 (refine oP (hM) ?_; conv => whnf)
 have he : iniD p q s = if iniB forms.length (chF p q s) n then (iniL p s forms (prodK (chF p q s) n), true) else ([], false) := by
  unfold iniD; rw [hform, hn]; rfl
 refine WPc.loopF tt_ok mx_ok (fun k : Nat => k ≤ n ∧ ∀ j, j < k → totN forms.length (chF p q s) (j + 1) ≤ 4000) (fun k => [(11, .int .i64 (k : Int)), (21, .top), (9, .int .i64 (totN forms.length (chF p q s) k : Int))]) (fun _ => []) (fun k => n - k) 0 ⟨by omega, fun j hj => by omega⟩ ?_; conv => whnf
 refine ⟨sI, ?_⟩
 rintro k ⟨hk, ha⟩
 conv => whnf
 refine cmpI ?_ ?_ <;> (intro g1; conv => whnf)
 ·have hck := chF_len hp hq s k
  have htk : totN forms.length (chF p q s) k ≤ 4000 := tot_le hF1 hk ha
  have hmul := Nat.mul_le_mul htk hck
  have hup : totN forms.length (chF p q s) (k + 1) = totN forms.length (chF p q s) k * (chF p q s k).length := rfl
  (refine oP (choicesR p q s k hp hq (by omega)) ?_; conv => whnf)
  rw [← Int.natCast_mul, ← hup]
  refine aI ?_
  conv => whnf
  refine cmpI ?_ ?_ <;> (intro g2; conv => whnf)
  ·rw [if_neg (fun hb => by have := hb k (by omega); omega)] at he
   exact ⟨.inr ⟨rfl, he⟩, rfl⟩
  ·repeat' ((first|refine nI ?_|refine aI ?_|refine tI ?_|refine fI ?_|fail);conv => whnf)
   refine ⟨k + 1, sI, ⟨by omega, fun j hj => ?_⟩, by dsimp only; omega⟩
   by_cases e : j = k
   ·subst e; omega
   ·exact ha j (by omega)
 have hB : iniB forms.length (chF p q s) n := fun j hj => ha j (by omega)
 rw [if_pos hB] at he
 have hpl := prod_le (F := forms.length) (ch := chF p q s) hF0 (by omega) hB
 have hpw := prod_word (chF p q s)
 have hpk : ∀ k, prodK (chF p q s) (k + 1) = extL (prodK (chF p q s) k) (chF p q s k) := fun _ => rfl
 have hp0 : prodK (chF p q s) 0 = [[]] := rfl
 have hch : ∀ k, (chF p q s k).length ≤ 60 := fun k => chF_len hp hq s k
 have hcR : ∀ i : Nat, PSpec Tryz.prog 51 [.agg (encP p), .agg (encQ q), .agg (encZ s), .int .i64 (i : Int)] (fun u => u = .sl 0 encI (chF p q s i)) := fun i => choicesR p q s i hp hq (by omega)
 clear ha
 generalize chF p q s = ch at he hpl hpw hpk hp0 hch hcR hB
 refine WPc.loopF tt_ok mx_ok (fun a : Nat => a ≤ forms.length) (fun a => [(13, .int .i64 (a : Int)), (12, .row 1000 (iniL p s (forms.take a) (prodK ch n)).length 6)]) (fun a => [(1000, rowC (iniL p s (forms.take a) (prodK ch n)))]) (fun a => forms.length - a) 0 (Nat.zero_le _) ?_; conv => whnf
 refine ⟨Sub.by_ [(1000, .nil 6)] _ 400 rfl (auto_) (auto_), ?_⟩
 rintro a ha
 conv => whnf
 refine cmpI ?_ ?_ <;> (intro g2; conv => whnf)
 ·have hup := iniL_take (p := p) (s := s) (W := prodK ch n) (show a < forms.length by omega)
  have hwl : forms.length * (prodK ch n).length ≤ 4000 := by exact (hpl n (Nat.le_refl n)).2
  have hw4 := (hpl n (Nat.le_refl n)).1
  refine bldI 0 encI [] rfl ?_
  conv => whnf
  refine bldI [] encL [[]] rfl ?_
  conv => whnf
  refine WPc.loopF tt_ok mx_ok (fun k : Nat => k ≤ n) (fun k => [(15, .int .i64 (k : Int)), (56, .top), (57, .top), (14, .sl [] encL (prodK ch k))]) (fun _ => [(1000, rowC (iniL p s (forms.take a) (prodK ch n)))]) (fun k => n - k) 0 (Nat.zero_le _) ?_; conv => whnf
  refine ⟨Sub.leak 57 rfl sI, ?_⟩
  rintro k hk
  conv => whnf
  refine cmpI ?_ ?_ <;> (intro g1; conv => whnf)
  ·(refine oP (hcR k) ?_; conv => whnf)
   have hc := hch k
   have hm := (hpl (k + 1) (by omega)).1
   have hm0 := (hpl k (by omega)).1
   have hw : ∀ w ∈ prodK ch k, w.length ≤ 8 := fun w h => by have := hpw k w h; omega
   have hpk := hpk k
   rw [hpk] at hm
   refine WPc.loopF tt_ok mx_ok (fun a2 : Nat => a2 ≤ (prodK ch k).length) (fun a2 => [(18, .int .i64 (a2 : Int)), (17, .row 1001 (extL ((prodK ch k).take a2) (ch k)).length 1)]) (fun a2 => [(1000, rowC (iniL p s (forms.take a) (prodK ch n))), (1001, rowL (extL ((prodK ch k).take a2) (ch k)))]) (fun a2 => (prodK ch k).length - a2) 0 (Nat.zero_le _) ?_; conv => whnf
   refine ⟨Sub.by_ [(1000, .old 1000), (1001, .nil 1)] _ 400 rfl (auto_) (auto_), ?_⟩
   rintro a2 ha2
   conv => whnf
   refine cmpI ?_ ?_ <;> (intro g2; conv => whnf)
   ·have hwa : ((prodK ch k).getD a2 []).length ≤ 8 := by
     rw [getL (by omega)]; exact hw _ (List.getElem_mem _)
    have hup3 := extL_take (c := ch k) (show a2 < (prodK ch k).length by omega)
    have hz0 : (List.map (fun x => (prodK ch k).getD a2 [] ++ [x]) (List.take 0 (ch k))).length = 0 := by simp
    refine WPc.loopF tt_ok mx_ok (fun b : Nat => b ≤ (ch k).length) (fun b => [(19, .int .i64 (b : Int)), (17, .row 1001 (extL ((prodK ch k).take a2) (ch k) ++ ((ch k).take b).map fun x => (prodK ch k).getD a2 [] ++ [x]).length 1)]) (fun b => [(1000, rowC (iniL p s (forms.take a) (prodK ch n))), (1001, rowL (extL ((prodK ch k).take a2) (ch k) ++ ((ch k).take b).map fun x => (prodK ch k).getD a2 [] ++ [x]))]) (fun b => (ch k).length - b) 0 (Nat.zero_le _) ?_; conv => whnf
    refine ⟨Sub.id_ 400 rfl ⟨rfl, by show Blk.row _ _ _ _ = Blk.row _ _ _ _; simp, trivial⟩ (auto_), ?_⟩
    rintro b hbb
    conv => whnf
    refine cmpI ?_ ?_ <;> (intro g3; conv => whnf)
    ·have hlt := ext_part (h := (prodK ch k).getD a2 []) (show a2 < (prodK ch k).length by omega) (show b < (ch k).length by omega) hm
     have hup2 := mapN_take (h := (prodK ch k).getD a2 []) (show b < (ch k).length by omega)
     have hz1 : (List.map (fun x => (prodK ch k).getD a2 [] ++ [x]) (List.take (b + 1) (ch k))).length = (List.map (fun x => (prodK ch k).getD a2 [] ++ [x]) (List.take b (ch k))).length + 1 := by rw [hup2]; simp
     refine drawF (by decide +kernel) ?_
     conv => whnf
     refine nI ?_
     conv => whnf
     refine callLN 400 [(1005, .old 5)] [(1005, rowN ((prodK ch k).getD a2 []))] (.row 1005 ((prodK ch k).getD a2 []).length 1) (copyIntsL ((prodK ch k).getD a2 []) (by omega)) (auto_) rfl rfl out1 ?_
     conv => whnf
     refine nI ?_
     conv => whnf
     refine leakN ?_
     conv => whnf
     refine appI [(ch k).getD b 0] rfl lI ?_
     conv => whnf
     refine bldI [] encL [(prodK ch k).getD a2 [] ++ [(ch k).getD b 0]] rfl ?_
     conv => whnf
     refine leakN ?_
     conv => whnf
     refine appI [(prodK ch k).getD a2 [] ++ [(ch k).getD b 0]] rfl lI ?_
     conv => whnf
     repeat' ((first|refine nI ?_|refine aI ?_|refine tI ?_|refine fI ?_|fail);conv => whnf)
     exact ⟨b + 1, Sub.by_ [(1000, .old 1000), (1001, .old 93)] _ 400 rfl ⟨rfl, by show Blk.row _ _ _ _ = Blk.row _ _ _ _; rw [List.append_assoc, ← hup2], trivial⟩ (auto_), by omega, by dsimp only; omega⟩
    ·have hb9 : b = (ch k).length := by omega
     have hl9 : extL ((prodK ch k).take a2) (ch k) ++ List.map (fun x => (prodK ch k).getD a2 [] ++ [x]) ((ch k).take b) = extL ((prodK ch k).take (a2 + 1)) (ch k) := by rw [hb9, List.take_length, ← hup3]
     have hl8 := congrArg List.length hl9
     repeat' ((first|refine nI ?_|refine aI ?_|refine tI ?_|refine fI ?_|fail);conv => whnf)
     exact ⟨a2 + 1, Sub.id_ 400 rfl ⟨rfl, by show Blk.row _ _ _ _ = Blk.row _ _ _ _; rw [hl9], trivial⟩ (auto_), by omega, by dsimp only; omega⟩
   ·have ha9 : a2 = (prodK ch k).length := by omega
    have hl9 : extL ((prodK ch k).take a2) (ch k) = prodK ch (k + 1) := by rw [ha9, List.take_length, ← hpk]
    repeat' ((first|refine nI ?_|refine aI ?_|refine tI ?_|refine fI ?_|fail);conv => whnf)
    exact ⟨k + 1, Sub.leak 1001 rfl (by rw [hl9]; exact sI), by omega, by dsimp only; omega⟩
  ·obtain rfl : n = k := by omega
   have hz0 : (List.map (cfgI p s (forms.getD a [])) (List.take 0 (prodK ch n))).length = 0 := by simp
   refine WPc.loopF tt_ok mx_ok (fun b : Nat => b ≤ (prodK ch n).length) (fun b => [(20, .int .i64 (b : Int)), (12, .row 1000 (iniL p s (forms.take a) (prodK ch n) ++ ((prodK ch n).take b).map (cfgI p s (forms.getD a []))).length 6)]) (fun b => [(1000, rowC (iniL p s (forms.take a) (prodK ch n) ++ ((prodK ch n).take b).map (cfgI p s (forms.getD a []))))]) (fun b => (prodK ch n).length - b) 0 (Nat.zero_le _) ?_; conv => whnf
   refine ⟨Sub.id_ 400 rfl ⟨by show Blk.row _ _ _ _ = Blk.row _ _ _ _; simp, trivial⟩ (auto_), ?_⟩
   rintro b hb
   conv => whnf
   refine cmpI ?_ ?_ <;> (intro g3; conv => whnf)
   ·have hlt := ini_part (p := p) (s := s) (sh := (forms.getD a [])) (show a < forms.length by omega) (show b < (prodK ch n).length by omega) hwl
    have hup2 := mapW_take (p := p) (s := s) (sh := (forms.getD a [])) (show b < (prodK ch n).length by omega)
    have hz1 : (List.map (cfgI p s (forms.getD a [])) (List.take (b + 1) (prodK ch n))).length = (List.map (cfgI p s (forms.getD a [])) (List.take b (prodK ch n))).length + 1 := by rw [hup2]; simp
    have hsh : (forms.getD a []).length ≤ 8 := by rw [getL (by omega)]; exact hF2 _ (List.getElem_mem _)
    refine drawF (by decide +kernel) ?_
    conv => whnf
    refine nI ?_
    conv => whnf
    refine callLN 400 [(1005, .old 5)] [(1005, rowN (forms.getD a []))] (.row 1005 (forms.getD a []).length 1) (copyIntsL (forms.getD a []) (by omega)) (auto_) rfl rfl out1 ?_
    conv => whnf
    refine nI ?_
    conv => whnf
    refine aI ?_
    conv => whnf
    refine mkI 0 encI 0 rfl (by dsimp only; omega) ?_
    conv => whnf
    refine mkI 0 encI 0 rfl (by dsimp only; omega) ?_
    conv => whnf
    refine bldI cfg0 encC [cfgI p s (forms.getD a []) ((prodK ch n).getD b [])] rfl ?_
    conv => whnf
    refine leakN ?_
    conv => whnf
    refine appI [cfgI p s (forms.getD a []) ((prodK ch n).getD b [])] rfl lI ?_
    conv => whnf
    repeat' ((first|refine nI ?_|refine aI ?_|refine tI ?_|refine fI ?_|fail);conv => whnf)
    exact ⟨b + 1, Sub.by_ [(1000, .old 126)] _ 400 rfl ⟨by show Blk.row _ _ _ _ = Blk.row _ _ _ _; rw [List.append_assoc, ← hup2], trivial⟩ (auto_), by omega, by dsimp only; omega⟩
   ·have hb9 : b = (prodK ch n).length := by omega
    have hl9 : iniL p s (forms.take a) (prodK ch n) ++ List.map (cfgI p s (forms.getD a [])) ((prodK ch n).take b) = iniL p s (forms.take (a + 1)) (prodK ch n) := by rw [hb9, List.take_length, ← hup]
    have hl8 := congrArg List.length hl9
    repeat' ((first|refine nI ?_|refine aI ?_|refine tI ?_|refine fI ?_|fail);conv => whnf)
    exact ⟨a + 1, Sub.id_ 400 rfl ⟨by show Blk.row _ _ _ _ = Blk.row _ _ _ _; rw [hl9], trivial⟩ (auto_), by omega, by dsimp only; omega⟩
 ·have e : a = forms.length := by omega
  rw [e, List.take_length]
  exact ⟨.inl (by rw [he]; rfl), rfl⟩
theorem initialRn (p : Pro) (q : Prp) (s : Siz) (hp : ¬ bigP p) (hq : ¬ bigQ q) (hv : propE p q = 0) (hz : sizeE p s = 0) (hT : ¬ p.topology = 4) : PSpec Tryz.prog 43 [.agg (encP p), .agg (encQ q), .agg (encZ s)] (inU (iniD p q s)) := by
 have hle := bigP_le hp
 have hsz := sizeE_ok hz
 obtain ⟨n, hn⟩ : ∃ n : Nat, modN p s = n := ⟨(modN p s).toNat, by unfold modN; split <;> omega⟩
 have hn8 : n ≤ 8 := by unfold modN at hn; split at hn <;> omega
 have hM := modeledR p s (by omega)
 rw [hn] at hM
 refine PSpec.intro tt_ok mx_ok Tryz.func43 rfl (by decide) ?_; (conv => whnf)
 refine boxP rfl ?_
 conv => whnf
 refine boxP rfl ?_
 conv => whnf
 refine boxP rfl ?_
 conv => whnf
 obtain ⟨forms, hfm⟩ : ∃ f : List (List Int), f = [[]] := ⟨_, rfl⟩
 have hF0 : 1 ≤ 1 := Nat.le_refl 1
 have hF1 : 1 ≤ 5 := by decide
 have hfl : forms.length = 1 := by rw [hfm]; rfl
 have hg0 : ∀ a, a < forms.length → ([none] : List (Option (List Int))).getD a none = none := fun a h => by rw [show a = 0 by omega]; rfl
 have hf0 : ∀ a, a < forms.length → forms.getD a [] = [] := fun a h => by rw [show a = 0 by omega, hfm]; rfl
 have hform : iniF p s = forms := by unfold iniF; rw [if_neg hT, hfm]
 have hl2 : ([none] : List (Option (List Int))).length = forms.length := by rw [hfl]; rfl
 refine bldI none encO [none] rfl ?_
 conv => whnf
 repeat' ((first|refine nI ?_|refine aI ?_|refine tI ?_|refine fI ?_|fail);conv => whnf)
 (refine oP (hM) ?_; conv => whnf)
 have he : iniD p q s = if iniB 1 (chF p q s) n then (iniL p s forms (prodK (chF p q s) n), true) else ([], false) := by
  unfold iniD; rw [hform, hn, hfl]; rfl
 refine WPc.loopF tt_ok mx_ok (fun k : Nat => k ≤ n ∧ ∀ j, j < k → totN 1 (chF p q s) (j + 1) ≤ 4000) (fun k => [(11, .int .i64 (k : Int)), (8, .sl none encO [none]), (21, .sl none encO [none]), (30, .sl none encO [none]), (9, .int .i64 (totN 1 (chF p q s) k : Int))]) (fun _ => []) (fun k => n - k) 0 ⟨by omega, fun j hj => by omega⟩ ?_; conv => whnf
 refine ⟨Sub.leak 21 rfl sI, ?_⟩
 rintro k ⟨hk, ha⟩
 conv => whnf
 refine cmpI ?_ ?_ <;> (intro g1; conv => whnf)
 ·have hck := chF_len hp hq s k
  have htk : totN 1 (chF p q s) k ≤ 4000 := tot_le hF1 hk ha
  have hmul := Nat.mul_le_mul htk hck
  have hup : totN 1 (chF p q s) (k + 1) = totN 1 (chF p q s) k * (chF p q s k).length := rfl
  (refine oP (choicesR p q s k hp hq (by omega)) ?_; conv => whnf)
  rw [← Int.natCast_mul, ← hup]
  refine aI ?_
  conv => whnf
  refine cmpI ?_ ?_ <;> (intro g2; conv => whnf)
  ·rw [if_neg (fun hb => by have := hb k (by omega); omega)] at he
   exact ⟨.inr ⟨rfl, he⟩, rfl⟩
  ·repeat' ((first|refine nI ?_|refine aI ?_|refine tI ?_|refine fI ?_|fail);conv => whnf)
   refine ⟨k + 1, sI, ⟨by omega, fun j hj => ?_⟩, by dsimp only; omega⟩
   by_cases e : j = k
   ·subst e; omega
   ·exact ha j (by omega)
 have hB : iniB 1 (chF p q s) n := fun j hj => ha j (by omega)
 rw [if_pos hB] at he
 have hpl := prod_le (F := 1) (ch := chF p q s) hF0 (by omega) hB
 have hpw := prod_word (chF p q s)
 have hpk : ∀ k, prodK (chF p q s) (k + 1) = extL (prodK (chF p q s) k) (chF p q s k) := fun _ => rfl
 have hp0 : prodK (chF p q s) 0 = [[]] := rfl
 have hch : ∀ k, (chF p q s k).length ≤ 60 := fun k => chF_len hp hq s k
 have hcR : ∀ i : Nat, PSpec Tryz.prog 51 [.agg (encP p), .agg (encQ q), .agg (encZ s), .int .i64 (i : Int)] (fun u => u = .sl 0 encI (chF p q s i)) := fun i => choicesR p q s i hp hq (by omega)
 clear ha
 generalize chF p q s = ch at he hpl hpw hpk hp0 hch hcR hB
 refine WPc.loopF tt_ok mx_ok (fun a : Nat => a ≤ 1) (fun a => [(13, .int .i64 (a : Int)), (12, .row 1000 (iniL p s (forms.take a) (prodK ch n)).length 6)]) (fun a => [(1000, rowC (iniL p s (forms.take a) (prodK ch n)))]) (fun a => 1 - a) 0 (Nat.zero_le _) ?_; conv => whnf
 refine ⟨Sub.by_ [(1000, .nil 6)] _ 400 rfl (auto_) (auto_), ?_⟩
 rintro a ha
 conv => whnf
 refine cmpI ?_ ?_ <;> (intro g2; conv => whnf)
 ·have hup := iniL_take (p := p) (s := s) (W := prodK ch n) (show a < forms.length by omega)
  have hwl : forms.length * (prodK ch n).length ≤ 4000 := by rw [hfl]; exact (hpl n (Nat.le_refl n)).2
  have hw4 := (hpl n (Nat.le_refl n)).1
  refine bldI 0 encI [] rfl ?_
  conv => whnf
  refine bldI [] encL [[]] rfl ?_
  conv => whnf
  refine WPc.loopF tt_ok mx_ok (fun k : Nat => k ≤ n) (fun k => [(15, .int .i64 (k : Int)), (56, .top), (57, .top), (14, .sl [] encL (prodK ch k))]) (fun _ => [(1000, rowC (iniL p s (forms.take a) (prodK ch n)))]) (fun k => n - k) 0 (Nat.zero_le _) ?_; conv => whnf
  refine ⟨Sub.leak 57 rfl sI, ?_⟩
  rintro k hk
  conv => whnf
  refine cmpI ?_ ?_ <;> (intro g1; conv => whnf)
  ·(refine oP (hcR k) ?_; conv => whnf)
   have hc := hch k
   have hm := (hpl (k + 1) (by omega)).1
   have hm0 := (hpl k (by omega)).1
   have hw : ∀ w ∈ prodK ch k, w.length ≤ 8 := fun w h => by have := hpw k w h; omega
   have hpk := hpk k
   rw [hpk] at hm
   refine WPc.loopF tt_ok mx_ok (fun a2 : Nat => a2 ≤ (prodK ch k).length) (fun a2 => [(18, .int .i64 (a2 : Int)), (17, .row 1001 (extL ((prodK ch k).take a2) (ch k)).length 1)]) (fun a2 => [(1000, rowC (iniL p s (forms.take a) (prodK ch n))), (1001, rowL (extL ((prodK ch k).take a2) (ch k)))]) (fun a2 => (prodK ch k).length - a2) 0 (Nat.zero_le _) ?_; conv => whnf
   refine ⟨Sub.by_ [(1000, .old 1000), (1001, .nil 1)] _ 400 rfl (auto_) (auto_), ?_⟩
   rintro a2 ha2
   conv => whnf
   refine cmpI ?_ ?_ <;> (intro g2; conv => whnf)
   ·have hwa : ((prodK ch k).getD a2 []).length ≤ 8 := by
     rw [getL (by omega)]; exact hw _ (List.getElem_mem _)
    have hup3 := extL_take (c := ch k) (show a2 < (prodK ch k).length by omega)
    have hz0 : (List.map (fun x => (prodK ch k).getD a2 [] ++ [x]) (List.take 0 (ch k))).length = 0 := by simp
    refine WPc.loopF tt_ok mx_ok (fun b : Nat => b ≤ (ch k).length) (fun b => [(19, .int .i64 (b : Int)), (17, .row 1001 (extL ((prodK ch k).take a2) (ch k) ++ ((ch k).take b).map fun x => (prodK ch k).getD a2 [] ++ [x]).length 1)]) (fun b => [(1000, rowC (iniL p s (forms.take a) (prodK ch n))), (1001, rowL (extL ((prodK ch k).take a2) (ch k) ++ ((ch k).take b).map fun x => (prodK ch k).getD a2 [] ++ [x]))]) (fun b => (ch k).length - b) 0 (Nat.zero_le _) ?_; conv => whnf
    refine ⟨Sub.id_ 400 rfl ⟨rfl, by show Blk.row _ _ _ _ = Blk.row _ _ _ _; simp, trivial⟩ (auto_), ?_⟩
    rintro b hbb
    conv => whnf
    refine cmpI ?_ ?_ <;> (intro g3; conv => whnf)
    ·have hlt := ext_part (h := (prodK ch k).getD a2 []) (show a2 < (prodK ch k).length by omega) (show b < (ch k).length by omega) hm
     have hup2 := mapN_take (h := (prodK ch k).getD a2 []) (show b < (ch k).length by omega)
     have hz1 : (List.map (fun x => (prodK ch k).getD a2 [] ++ [x]) (List.take (b + 1) (ch k))).length = (List.map (fun x => (prodK ch k).getD a2 [] ++ [x]) (List.take b (ch k))).length + 1 := by rw [hup2]; simp
     refine drawF (by decide +kernel) ?_
     conv => whnf
     refine nI ?_
     conv => whnf
     refine callLN 400 [(1005, .old 5)] [(1005, rowN ((prodK ch k).getD a2 []))] (.row 1005 ((prodK ch k).getD a2 []).length 1) (copyIntsL ((prodK ch k).getD a2 []) (by omega)) (auto_) rfl rfl out1 ?_
     conv => whnf
     refine nI ?_
     conv => whnf
     refine leakN ?_
     conv => whnf
     refine appI [(ch k).getD b 0] rfl lI ?_
     conv => whnf
     refine bldI [] encL [(prodK ch k).getD a2 [] ++ [(ch k).getD b 0]] rfl ?_
     conv => whnf
     refine leakN ?_
     conv => whnf
     refine appI [(prodK ch k).getD a2 [] ++ [(ch k).getD b 0]] rfl lI ?_
     conv => whnf
     repeat' ((first|refine nI ?_|refine aI ?_|refine tI ?_|refine fI ?_|fail);conv => whnf)
     exact ⟨b + 1, Sub.by_ [(1000, .old 1000), (1001, .old 93)] _ 400 rfl ⟨rfl, by show Blk.row _ _ _ _ = Blk.row _ _ _ _; rw [List.append_assoc, ← hup2], trivial⟩ (auto_), by omega, by dsimp only; omega⟩
    ·have hb9 : b = (ch k).length := by omega
     have hl9 : extL ((prodK ch k).take a2) (ch k) ++ List.map (fun x => (prodK ch k).getD a2 [] ++ [x]) ((ch k).take b) = extL ((prodK ch k).take (a2 + 1)) (ch k) := by rw [hb9, List.take_length, ← hup3]
     have hl8 := congrArg List.length hl9
     repeat' ((first|refine nI ?_|refine aI ?_|refine tI ?_|refine fI ?_|fail);conv => whnf)
     exact ⟨a2 + 1, Sub.id_ 400 rfl ⟨rfl, by show Blk.row _ _ _ _ = Blk.row _ _ _ _; rw [hl9], trivial⟩ (auto_), by omega, by dsimp only; omega⟩
   ·have ha9 : a2 = (prodK ch k).length := by omega
    have hl9 : extL ((prodK ch k).take a2) (ch k) = prodK ch (k + 1) := by rw [ha9, List.take_length, ← hpk]
    repeat' ((first|refine nI ?_|refine aI ?_|refine tI ?_|refine fI ?_|fail);conv => whnf)
    exact ⟨k + 1, Sub.leak 1001 rfl (by rw [hl9]; exact sI), by omega, by dsimp only; omega⟩
  ·obtain rfl : n = k := by omega
   rw [hf0 a (by omega)] at hup
   have hz0 : (List.map (cfgI p s ([] : List Int)) (List.take 0 (prodK ch n))).length = 0 := by simp
   refine WPc.loopF tt_ok mx_ok (fun b : Nat => b ≤ (prodK ch n).length) (fun b => [(20, .int .i64 (b : Int)), (12, .row 1000 (iniL p s (forms.take a) (prodK ch n) ++ ((prodK ch n).take b).map (cfgI p s ([] : List Int))).length 6)]) (fun b => [(1000, rowC (iniL p s (forms.take a) (prodK ch n) ++ ((prodK ch n).take b).map (cfgI p s ([] : List Int))))]) (fun b => (prodK ch n).length - b) 0 (Nat.zero_le _) ?_; conv => whnf
   refine ⟨Sub.id_ 400 rfl ⟨by show Blk.row _ _ _ _ = Blk.row _ _ _ _; simp, trivial⟩ (auto_), ?_⟩
   rintro b hb
   conv => whnf
   refine cmpI ?_ ?_ <;> (intro g3; conv => whnf)
   ·have hlt := ini_part (p := p) (s := s) (sh := ([] : List Int)) (show a < forms.length by omega) (show b < (prodK ch n).length by omega) hwl
    have hup2 := mapW_take (p := p) (s := s) (sh := ([] : List Int)) (show b < (prodK ch n).length by omega)
    have hz1 : (List.map (cfgI p s ([] : List Int)) (List.take (b + 1) (prodK ch n))).length = (List.map (cfgI p s ([] : List Int)) (List.take b (prodK ch n))).length + 1 := by rw [hup2]; simp
    refine drawF (by decide +kernel) ?_
    conv => whnf
    refine nI ?_
    conv => whnf
    rw [tN, hg0 a (by omega)]
    conv => whnf
    refine callLN 400 [(1005, .old 5)] [(1005, rowN ([] : List Int))] (.row 1005 ([] : List Int).length 1) copyIntsN (auto_) rfl rfl out1 ?_
    conv => whnf
    refine nI ?_
    conv => whnf
    refine aI ?_
    conv => whnf
    refine mkI 0 encI 0 rfl (by dsimp only; omega) ?_
    conv => whnf
    refine mkI 0 encI 0 rfl (by dsimp only; omega) ?_
    conv => whnf
    refine bldI cfg0 encC [cfgI p s ([] : List Int) ((prodK ch n).getD b [])] rfl ?_
    conv => whnf
    refine leakN ?_
    conv => whnf
    refine appI [cfgI p s ([] : List Int) ((prodK ch n).getD b [])] rfl lI ?_
    conv => whnf
    repeat' ((first|refine nI ?_|refine aI ?_|refine tI ?_|refine fI ?_|fail);conv => whnf)
    exact ⟨b + 1, Sub.by_ [(1000, .old 126)] _ 400 rfl ⟨by show Blk.row _ _ _ _ = Blk.row _ _ _ _; rw [List.append_assoc, ← hup2], trivial⟩ (auto_), by omega, by dsimp only; omega⟩
   ·have hb9 : b = (prodK ch n).length := by omega
    have hl9 : iniL p s (forms.take a) (prodK ch n) ++ List.map (cfgI p s ([] : List Int)) ((prodK ch n).take b) = iniL p s (forms.take (a + 1)) (prodK ch n) := by rw [hb9, List.take_length, ← hup]
    have hl8 := congrArg List.length hl9
    repeat' ((first|refine nI ?_|refine aI ?_|refine tI ?_|refine fI ?_|fail);conv => whnf)
    exact ⟨a + 1, Sub.id_ 400 rfl ⟨by show Blk.row _ _ _ _ = Blk.row _ _ _ _; rw [hl9], trivial⟩ (auto_), by omega, by dsimp only; omega⟩
 ·have e : a = forms.length := by omega
  rw [e, List.take_length]
  exact ⟨.inl (by rw [he]; rfl), rfl⟩
theorem initialR (p : Pro) (q : Prp) (s : Siz) (hp : ¬ bigP p) (hq : ¬ bigQ q) (hv : propE p q = 0) (hz : sizeE p s = 0) : PSpec Tryz.prog 43 [.agg (encP p), .agg (encQ q), .agg (encZ s)] (inU (iniD p q s)) := by
 by_cases hT : p.topology = 4
 ·exact initialRt p q s hp hq hv hz hT
 ·exact initialRn p q s hp hq hv hz hT
end Go.Proofs.YtaeomngmcfdfpaaGreatDoor
