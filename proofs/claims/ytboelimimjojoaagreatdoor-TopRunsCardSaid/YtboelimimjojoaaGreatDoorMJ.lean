import Derived.Test.YtboelimimjojoaaGreatDoorFqEs
import Derived.Test.YtboelimimjojoaaGreatDoorMG
import Derived.Test.YtboelimimjojoaaGreatDoorMN
set_option linter.unusedVariables false
set_option linter.unusedSimpArgs false
namespace Go.Proofs.YtboelimimjojoaaGreatDoor
open Go.Sort Go.Shelf
set_option maxRecDepth 100000
set_option maxHeartbeats 16000000
theorem sortCP : Plain Tryz.prog 93 := ⟨_, Tryz.func93, rfl, rfl⟩
theorem sortCF (l : List Cfg) (hl : l.length ≤ 100000) (hw : ∀ c ∈ l, wideB c = false) : Spec Tryz.prog 93 [.row 7001 l.length 6, .fn 34 []] (Mem.ofL [(7001, rowC l)]) (fun u M => u = .tup [] ∧ M = Mem.ofL [(7001, rowC (srtC l))]) := by
 have eg : ∀ args w, (callFunc 34 args).run Tryz.prog w = .ok (.enter 34 args) w := enters_of Tryz.func34 (by kernel_rfl) rfl
 refine Spec.sortF sortCP (fun a b ha => compareC a b ha) eg
  (fun α _ enc hk h1 cf hO cb blk off cap d w hcmp hH hblk hsz => AnyQ.slices_SortFunc Tryz.laysSortC 6 Tryz.isAgg36 Tryz.sizeOf36 enc hk h1 cf hO _ cb blk off cap d w eg hcmp hH hblk hsz)
  (fun p cap fv w => AnyF.slices_SortFunc_none Tryz.laysSortC p cap fv w) (l := l) (t := 36) rfl rfl (by omega) hw ⟨rfl, ?_⟩
 funext x
 by_cases e : x = 7001
 ·subst e; rw [Mem.set_eq]; rfl
 ·rw [Mem.set_ne _ _ e]
  have h1 : Nat.beq 7001 x = false := by
   cases h : Nat.beq 7001 x with
   |false => rfl
   |true => exact absurd (Nat.eq_of_beq_eq_true h).symm e
  simp only [Mem.ofL, h1]
theorem tidyEqC (a b : Cfg) (ha : wideB a = false) : PSpec Tryz.prog 95 [.agg (encC a), .agg (encC b), .pd [.fn 34 []]] (fun u => u = .bool (decide (cmpC a b = 0))) := by
 refine PSpec.intro tt_ok mx_ok Tryz.func95 rfl (by decide) ?_; (conv => whnf)
 refine boxP rfl ?_
 conv => whnf
 refine boxP rfl ?_
 conv => whnf
 (refine oP (compareC a b ha) ?_; conv => whnf)
 refine cmpI ?_ ?_ <;> (intro h; conv => whnf)
 ·exact ⟨dec_t h, rfl⟩
 ·exact ⟨dec_f h, rfl⟩
theorem compactC (l : List Cfg) (hn : l.length ≤ 100000) (hw : ∀ a ∈ l, wideB a = false) (hd : ascC l) :
  Spec Tryz.prog 94 [.row 7001 l.length 6, .fn 95 [.pd [.fn 34 []]]] (Mem.ofL [(7001, rowC l)])
   (fun u M' => u = .row 7001 l.length 6 ∧ M' = Mem.ofL [(7001, rowC l)]) := by
 refine Spec.norm 400 (R := fun u M => u = .row 7001 l.length 6 ∧ memR (idL [(7001, rowC l)]) 400 M [(7001, rowC l)]) ?_ ?_
 ·refine Spec.intro tt_ok mx_ok [(7001, rowC l)] Tryz.func94 rfl (by decide) ?_
  conv => whnf
  refine cmpI ?_ ?_ <;> (intro g0; conv => whnf)
  ·exact ⟨rfl, auto_⟩
  refine WPc.loopF tt_ok mx_ok (fun i : Nat => 1 ≤ i ∧ i ≤ l.length) (fun i => [(5, .int .i64 (i : Int))]) (fun _ => [(7001, rowC l)]) (fun i => l.length - i) 1 ⟨Nat.le_refl _, by omega⟩ ?_; conv => whnf
  refine ⟨sI, ?_⟩
  rintro i ⟨h1, h2⟩
  conv => whnf
  refine cmpI ?_ ?_ <;> (intro g1; conv => whnf)
  ·have hil : i < l.length := by omega
   refine dI ?_
   conv => whnf
   refine nI ?_
   rw [tN]
   conv => whnf
   refine aI ?_
   conv => whnf
   refine nI ?_
   rw [show ((i : Int) - 1).toNat = i - 1 by omega]
   conv => whnf
   have hcm := ascC_lt hd (show i - 1 < i by omega) hil
   have hne : cmpC (l.getD i cfg0) (l.getD (i - 1) cfg0) ≠ 0 := fun e => by rw [cmpC_neg] at e; omega
   have hE := tidyEqC (l.getD i cfg0) (l.getD (i - 1) cfg0) (hw _ (getD_memA cfg0 hil))
   rw [decide_eq_false hne] at hE
   (refine oC (hE) ?_; conv => whnf)
   repeat' ((first|refine nI ?_|refine aI ?_|refine tI ?_|refine fI ?_|fail);conv => whnf)
   exact ⟨i + 1, sI, ⟨by omega, by omega⟩, by dsimp only; omega⟩
  ·exact ⟨rfl, auto_⟩
 ·rintro u M' ⟨rfl, hM⟩
  exact ⟨_, .row 7001 l.length 6, rfl, hM, rfl, rfl, rfl⟩
theorem tidyC (l : List Cfg) (hn : l.length ≤ 100000) (hw : ∀ a ∈ l, wideB a = false) (hd : l.Nodup) : PSpec Tryz.prog 49 [.sl cfg0 encC l, .fn 34 []] (fun u => u = .sl cfg0 encC (srtC l)) := by
 have hlen := (srtC_perm l).length_eq
 refine PSpec.intro tt_ok mx_ok Tryz.func49 rfl (by decide) ?_; (conv => whnf)
 refine boxP rfl ?_
 conv => whnf
 refine nI ?_
 conv => whnf
 refine Spec.call [(7001, .old 7)] [(7001, rowC l)] 400 rfl (auto_) (auto_) (sortCF l hn hw) ?_
 rintro u M' ⟨rfl, rfl⟩
 refine ⟨[(7, .old 7001)], [(7, rowC (srtC l))], .tup [], rfl, (auto_), (auto_), ?_⟩
 rw [← hlen]
 conv => whnf
 refine Spec.call [(7001, .old 7)] [(7001, rowC (srtC l))] 400 rfl (auto_) (auto_) (compactC (srtC l) (by omega) (fun a h => hw a ((srtC_perm l).mem_iff.1 h)) (srtC_asc hd)) ?_
 rintro u M' ⟨rfl, rfl⟩
 refine ⟨[(7, .old 7001)], [(7, rowC (srtC l))], .row 7 (srtC l).length 6, rfl, (auto_), (auto_), ?_⟩
 conv => whnf
 exact ⟨rfl, rfl⟩
end Go.Proofs.YtboelimimjojoaaGreatDoor
namespace Go.Proofs.YtboelimimjojoaaGreatDoor
set_option maxRecDepth 100000
set_option maxHeartbeats 16000000
theorem take_mapC {p : Pro} {l : List Org} {k : Nat} (h : k < l.length) : (cfO (l.take (k + 1))).map (canC p) = (cfO (l.take k)).map (canC p) ++ [canC p (l.getD k org0).c] := by
 have e : l.getD k org0 = l[k] := by rw [gD, gL h]; rfl
 unfold cfO
 rw [List.take_succ_eq_append_getElem h, e, List.map_append, List.map_append]
 rfl
theorem ReachF (p : Pro) (q : Prp) (s : Siz) (hp : ¬ bigP p) (hq : ¬ bigQ q) : PSpec Tryz.prog 16 [.agg (encP p), .agg (encQ q), .agg (encZ s)] (fun u => u = rchE p q s) := by
 have he := rchE.eq_1 p q s
 obtain ⟨m, e, hm, _⟩ := rchE_form p q s hp hq
 refine PSpec.rp ⟨m, e, hm⟩ ?_
 clear hm
 refine PSpec.intro tt_ok mx_ok Tryz.func16 rfl (by decide) ?_; (conv => whnf)
 refine boxP rfl ?_
 conv => whnf
 refine boxP rfl ?_
 conv => whnf
 refine boxP rfl ?_
 conv => whnf
 (refine oP (checkAllF p q s hp hq) ?_; conv => whnf)
 refine cmpI ?_ ?_ <;> (intro h1; conv => whnf)
 ·rw [if_pos h1] at he; exact ⟨.inr ⟨_, rfl, he⟩, rfl⟩
 rw [if_neg h1] at he
 have S : Sys p q s := ⟨hp, hq, by omega⟩
 refine Spec.call [] [] 400 rfl trivial (auto_) (beginK p q s false S) ?_
 rintro u M (⟨hn, rfl⟩ | ⟨hi, rfl, rfl⟩)
 ·rw [if_neg hn] at he
  refine ⟨[], [], .tup [.val (.pointer none), .int .i64 4], rfl, trivial, (auto_), ?_⟩
  conv => whnf
  refine tI ?_
  conv => whnf
  exact ⟨.inr ⟨_, rfl, he⟩, rfl⟩
 rw [if_pos hi] at he
 have g0 := (SeP.inF (ex := false) S (iniX p q s) fun c hc => (iniX_mem S).1 hc).1
 have g1 := sea_zero (ex := false) S (iniX p q s) fun c => iniX_mem S
 generalize inF p false (iniX p q s) = y0 at g0 g1 ⊢
 refine ⟨[(7001, .old 7001), (7002, .old 7002), (7003, .old 7003)], srM p s false y0.1 y0.2, .tup [.ptr 7001 0, .int .i64 0], rfl, (auto_), (auto_), ?_⟩
 conv => whnf
 refine fI ?_
 conv => whnf
 refine Spec.call [(7001, .old 7001), (7002, .old 7002), (7003, .old 7003)] (srM p s false y0.1 y0.2) 400 rfl (auto_) (auto_) (allF p q s false S y0 g0 g1) ?_
 rintro u M (⟨y, k1, k2, k3, rfl, rfl⟩ | ⟨k1, rfl, y, rfl⟩)
 case inr =>
  rw [rchA_no k1] at he
  refine ⟨lm4, srN p s false y.1 y.2, .int .i64 4, rfl, (auto_), rfl, ?_⟩
  conv => whnf
  refine tI ?_
  conv => whnf
  exact ⟨.inr ⟨_, rfl, he⟩, rfl⟩
 have hC := k2.clo (Nat.le_of_eq (cfO_len _))
 rw [rchA_yes S hC (by rw [cfO_len]; exact k3)] at he
 have hrd := fun i (hi : i < y.1.length) => k1.og.rdy S hi
 refine ⟨lm4, srN p s false y.1 y.2, .int .i64 0, rfl, (auto_), rfl, ?_⟩
 conv => whnf
 refine fI ?_
 conv => whnf
 obtain ⟨l, f⟩ := y
 dsimp only at k1 k2 k3 hC he hrd ⊢
 refine WPc.loopF tt_ok mx_ok (fun k : Nat => k ≤ l.length) (fun k => [(42, .int .i64 (k : Int)), (12, .row 1000 ((cfO (l.take k)).map (canC p)).length 6)]) (fun k => (1000, rowC ((cfO (l.take k)).map (canC p))) :: srN p s false l f) (fun k => l.length - k) 0 (Nat.zero_le _) ?_; conv => whnf
 refine ⟨Sub.by_ [(1000, .nil 6), (7001, .old 7001), (7002, .old 7002), (7003, .old 7003), (7004, .old 7004)] _ 400 rfl (auto_) (auto_), ?_⟩
 rintro k hk
 conv => whnf
 refine cmpI ?_ ?_ <;> (intro g2; conv => whnf)
 ·have hlt : k < l.length := by omega
  have hr := hrd k hlt
  have eup := take_mapC (p := p) hlt
  have hlen : ((cfO (l.take k)).map (canC p)).length = k := by rw [List.length_map, cfO_len, List.length_take]; omega
  refine nI ?_
  rw [tN]
  conv => whnf
  (refine oP (canonicalF p (l.getD k org0).c hr.wide hr.plain) ?_; conv => whnf)
  refine bldI cfg0 encC [canC p (l.getD k org0).c] rfl ?_
  conv => whnf
  refine appI [canC p (l.getD k org0).c] rfl lI ?_
  conv => whnf
  repeat' ((first|refine nI ?_|refine aI ?_|refine tI ?_|refine fI ?_|fail);conv => whnf)
  refine ⟨k + 1, ?_, by omega, by dsimp only; omega⟩
  dsimp only
  rw [eup]
  exact Sub.by_ [(1000, .old 52), (7001, .old 7001), (7002, .old 7002), (7003, .old 7003), (7004, .old 7004)] _ 400 rfl (auto_) (auto_)
 ·obtain rfl : k = l.length := by omega
  rw [List.take_length]
  refine Spec.hand 1000 rfl ?_
  conv => whnf
  refine Spec.of_pure (n := 5) (tidyC ((cfO l).map (canC p)) (by rw [List.length_map, cfO_len]; omega) (fun a ha => ?_) hC.dis) rfl ?_
  ·obtain ⟨c, hc, rfl⟩ := List.mem_map.1 ha
   rw [canC_wide]
   exact (hC.rep c hc).1.wide
  ·rintro _ rfl
   conv => whnf
   exact ⟨.inl he.symm, rfl⟩
end Go.Proofs.YtboelimimjojoaaGreatDoor
