import Derived.Test.YtboelimimjojoaaGreatDoorMH
import Derived.Test.YtboelimimjojoaaGreatDoorMJ
set_option linter.unusedVariables false
set_option linter.unusedSimpArgs false
namespace Go.Proofs.YtboelimimjojoaaGreatDoor
set_option maxRecDepth 100000
set_option maxHeartbeats 16000000
theorem lawReachRun (p : Pro) (q : Prp) (s : Siz) (r : Rn) : PSpec Tryz.prog 7 [.agg (encCs p q s), .agg (encRn r)] (fun u => u = .bool true) := by
 refine PSpec.intro tt_ok mx_ok Tryz.func7 rfl (by decide) ?_; (conv => whnf)
 refine boxP rfl ?_
 conv => whnf
 refine boxP rfl ?_
 conv => whnf
 refine dC (bigCaseF p q s) (fun _ => ?_) (fun _ => ?_) <;> (conv => whnf)
 ·(refine oP (knownF) ?_; conv => whnf)
  exact ⟨rfl, rfl⟩
 rename_i hb
 have hp : ¬ bigP p := fun h => hb (.inl h)
 have hq : ¬ bigQ q := fun h => hb (.inr h)
 refine dC (smallF s) (fun _ => ?_) (fun _ => ?_) <;> (conv => whnf)
 case refine_2 =>
  (refine oP (knownF) ?_; conv => whnf)
  exact ⟨rfl, rfl⟩
 refine dC (longF r) (fun _ => ?_) (fun _ => ?_) <;> (conv => whnf)
 ·(refine oP (knownF) ?_; conv => whnf)
  exact ⟨rfl, rfl⟩
 rename_i hlg
 have hw : wideB r.start = false := by
  cases h : wideB r.start with
  |false => rfl
  |true => exact absurd (.inl h) hlg
 have hl : r.steps.length ≤ 300 := by
  by_cases h : 300 < r.steps.length
  ·exact absurd (.inr h) hlg
  ·omega
 refine dC (IsInitialR2 p q s r.start hp hq hw) (fun _ => ?_) (fun _ => ?_) <;> (conv => whnf)
 case refine_2 =>
  (refine oP (knownF) ?_; conv => whnf)
  exact ⟨rfl, rfl⟩
 rename_i hI
 have S : Sys p q s := ⟨hp, hq, hI.1⟩
 have b1 := ReplayF p s r hp hw (by omega)
 have b2 := ReachF p q s hp hq
 have hrp : rpT p s r = rp p s [r.start] r.start r.steps := by
  unfold rpT
  rw [if_neg (by have := S.siz.2; omega), if_pos hI.2.1]
 rw [hrp] at b1
 by_cases hok : runOk p s r.start r.steps
 case neg =>
  obtain ⟨e, he, hr⟩ := rp_no (acc := [r.start]) hok
  rw [hr] at b1
  (refine oP (b1) ?_; conv => whnf)
  obtain ⟨l, e2, h1, _⟩ := rchE_form p q s hp hq
  rw [h1] at b2
  (refine oP (b2) ?_; conv => whnf)
  refine cmpT he ?_
  conv => whnf
  (refine oP (knownF) ?_; conv => whnf)
  exact ⟨rfl, rfl⟩
 rw [rp_ok hok] at b1
 have hlen := trs_len p r.start r.steps
 have hR := S.rdy hI.2
 have hlast := trs_rdy hR hok r.steps.length (Nat.le_refl _)
 have hwn := (Wn.ini hI.2).of_run hok
 rw [Nat.zero_add] at hwn
 have b1' : PSpec Tryz.prog 20 [.agg (encP p), .agg (encZ s), .agg (encRn r)] (fun u => u = rpA (trs p r.start r.steps) 0) := b1
 generalize trs p r.start r.steps = m at hlen hlast hwn b1' ⊢
 (refine oP (b1') ?_; conv => whnf)
 rcases rchE_cases p q s hp hq with ⟨l, h1, hA, _⟩ | ⟨e, he, h1⟩
 case inr =>
  rw [h1] at b2
  (refine oP (b2) ?_; conv => whnf)
  refine fI ?_
  conv => whnf
  refine cmpT he ?_
  conv => whnf
  (refine oP (knownF) ?_; conv => whnf)
  exact ⟨rfl, rfl⟩
 rw [h1] at b2
 (refine oP (b2) ?_; conv => whnf)
 refine fI ?_
 conv => whnf
 refine fI ?_
 conv => whnf
 have hll := hA.le
 have hwid : ∀ d ∈ l, wideB d = false := fun d hd => (hA.rep d hd).1.1.wide
 refine WPc.loopF tt_ok mx_ok (fun z : Nat × List Int => z.1 ≤ l.length ∧ SpI (l.take z.1) z.2) (fun z => [(10, .int .i64 (z.1 : Int))]) (fun z => spB 9 (l.take z.1) z.2) (fun z => l.length - z.1) (0, []) ⟨Nat.zero_le _, SpI.nil⟩ ?_; conv => whnf
 refine ⟨Sub.by_ [(9, .old 9), (7002, .nil 6), (7003, .nil 1)] _ 400 rfl (auto_) (auto_), ?_⟩
 rintro ⟨k, o⟩ ⟨hk, hS⟩
 dsimp only at hk hS ⊢
 have htk : (l.take k).length ≤ 4000 := by rw [List.length_take]; omega
 have hwt : ∀ d ∈ l.take k, wideB d = false := fun d hd => hwid d (List.mem_of_mem_take hd)
 conv => whnf
 refine cmpI ?_ ?_ <;> (intro g1; conv => whnf)
 ·have hlt : k < l.length := by omega
  refine nI ?_
  rw [tN]
  conv => whnf
  refine Spec.call (lmE 9) (spM (l.take k) o) 400 rfl (auto_) (auto_) (addR (l.take k) o (l.getD k cfg0) hS (by omega) hwt) ?_
  rintro u M' ⟨o', b, h3, h4, rfl, rfl⟩
  have e2 := adC_take hA.asc hlt
  rw [e2] at h3
  refine ⟨lbE 9, spE 9 (adC (l.take k) (l.getD k cfg0)) o', .bool b, rfl, (auto_), rfl, ?_⟩
  conv => whnf
  repeat' ((first|refine nI ?_|refine aI ?_|refine tI ?_|refine fI ?_|fail);conv => whnf)
  refine ⟨(k + 1, o'), ?_, ⟨by dsimp only; omega, h3⟩, by dsimp only; omega⟩
  dsimp only
  rw [e2]
  exact Sub.by_ [(9, .old 9), (7002, .old 7004), (7003, .old 7005)] _ 400 rfl (auto_) (auto_)
 obtain rfl : k = l.length := by omega
 rw [List.take_length] at hS hwt htk ⊢
 refine fI ?_
 conv => whnf
 refine dI ?_
 conv => whnf
 refine aI ?_
 conv => whnf
 refine nI ?_
 rw [show ((m.length : Int) - 1).toNat = r.steps.length by omega]
 conv => whnf
 generalize m.getD r.steps.length cfg0 = d at hlast hwn ⊢
 (refine oC (CanonicalFR p s d hlast) ?_; conv => whnf)
 repeat' ((first|refine nI ?_|refine aI ?_|refine tI ?_|refine fI ?_|fail);conv => whnf)
 refine Spec.call (lmE 9) (spM l o) 400 rfl (auto_) (auto_) (findR l o (canC p d) hS (by omega) hwt) ?_
 rintro u M' ⟨⟨i, h3, h4, rfl⟩ | ⟨h3, rfl⟩, rfl⟩
 ·refine ⟨[(9, .old 7001), (7002, .old 7002), (7003, .old 7003)], spB 9 l o, .int .i64 (i : Int), rfl, (auto_), rfl, ?_⟩
  conv => whnf
  refine tI ?_
  conv => whnf
  (refine oP (knownF) ?_; conv => whnf)
  exact ⟨rfl, rfl⟩
 ·exact absurd ((hA.mem _).2 ⟨_, d, hwn, rfl⟩) h3
theorem lawReachClosed (p : Pro) (q : Prp) (s : Siz) : PSpec Tryz.prog 8 [.agg (encCs p q s)] (fun u => u = .bool true) := by
 refine PSpec.intro tt_ok mx_ok Tryz.func8 rfl (by decide) ?_; (conv => whnf)
 refine boxP rfl ?_
 conv => whnf
 refine dC (bigCaseF p q s) (fun _ => ?_) (fun _ => ?_) <;> (conv => whnf)
 ·(refine oP (knownF) ?_; conv => whnf)
  exact ⟨rfl, rfl⟩
 rename_i hb
 have hp : ¬ bigP p := fun h => hb (.inl h)
 have hq : ¬ bigQ q := fun h => hb (.inr h)
 refine dC (smallF s) (fun _ => ?_) (fun _ => ?_) <;> (conv => whnf)
 case refine_2 =>
  (refine oP (knownF) ?_; conv => whnf)
  exact ⟨rfl, rfl⟩
 have b2 := ReachF p q s hp hq
 rcases rchE_cases p q s hp hq with ⟨l, h1, hA, S, hik⟩ | ⟨e, he, h1⟩
 case inr =>
  rw [h1] at b2
  (refine oP (b2) ?_; conv => whnf)
  refine cmpT he ?_
  conv => whnf
  refine cmpT rfl ?_
  conv => whnf
  (refine oP (knownF) ?_; conv => whnf)
  exact ⟨rfl, rfl⟩
 rw [h1] at b2
 (refine oP (b2) ?_; conv => whnf)
 refine fI ?_
 conv => whnf
 have hll := hA.le
 have hwid : ∀ d ∈ l, wideB d = false := fun d hd => (hA.rep d hd).1.1.wide
 have hrd : ∀ i, i < l.length → Rdy p s (l.getD i cfg0) := fun i hi => (hA.rep _ (getD_memA cfg0 hi)).1.1
 refine WPc.loopF tt_ok mx_ok (fun z : Nat × List Int => z.1 ≤ l.length ∧ SpI (l.take z.1) z.2) (fun z => [(6, .int .i64 (z.1 : Int))]) (fun z => spB 5 (l.take z.1) z.2) (fun z => l.length - z.1) (0, []) ⟨Nat.zero_le _, SpI.nil⟩ ?_; conv => whnf
 refine ⟨Sub.by_ [(5, .old 5), (7002, .nil 6), (7003, .nil 1)] _ 400 rfl (auto_) (auto_), ?_⟩
 rintro ⟨k, o⟩ ⟨hk, hS⟩
 dsimp only at hk hS ⊢
 have htk : (l.take k).length ≤ 4000 := by rw [List.length_take]; omega
 have hwt : ∀ d ∈ l.take k, wideB d = false := fun d hd => hwid d (List.mem_of_mem_take hd)
 conv => whnf
 refine cmpI ?_ ?_ <;> (intro g1; conv => whnf)
 ·have hlt : k < l.length := by omega
  have e2 := adC_take hA.asc hlt
  refine dI ?_
  conv => whnf
  refine cmpI ?_ ?_ <;> (intro g2; conv => whnf)
  ·refine aI ?_
   conv => whnf
   refine nI ?_
   rw [show ((k : Int) - 1).toNat = k - 1 by omega]
   conv => whnf
   refine nI ?_
   rw [tN]
   conv => whnf
   have hcm := ascC_lt hA.asc (show k - 1 < k by omega) hlt
   (refine oC (compareC (l.getD (k - 1) cfg0) (l.getD k cfg0) (hwid _ (getD_memA cfg0 (by omega)))) ?_; conv => whnf)
   refine fI ?_
   conv => whnf
   refine nI ?_
   rw [tN]
   conv => whnf
   refine Spec.call (lmE 5) (spM (l.take k) o) 400 rfl (auto_) (auto_) (addR (l.take k) o (l.getD k cfg0) hS (by omega) hwt) ?_
   rintro u M' ⟨o', b, h3, h4, rfl, rfl⟩
   rw [e2] at h3
   refine ⟨lbE 5, spE 5 (adC (l.take k) (l.getD k cfg0)) o', .bool b, rfl, (auto_), rfl, ?_⟩
   conv => whnf
   repeat' ((first|refine nI ?_|refine aI ?_|refine tI ?_|refine fI ?_|fail);conv => whnf)
   refine ⟨(k + 1, o'), ?_, ⟨by dsimp only; omega, h3⟩, by dsimp only; omega⟩
   dsimp only
   rw [e2]
   exact Sub.by_ [(5, .old 5), (7002, .old 7004), (7003, .old 7005)] _ 400 rfl (auto_) (auto_)
  ·refine nI ?_
   rw [tN]
   conv => whnf
   refine Spec.call (lmE 5) (spM (l.take k) o) 400 rfl (auto_) (auto_) (addR (l.take k) o (l.getD k cfg0) hS (by omega) hwt) ?_
   rintro u M' ⟨o', b, h3, h4, rfl, rfl⟩
   rw [e2] at h3
   refine ⟨lbE 5, spE 5 (adC (l.take k) (l.getD k cfg0)) o', .bool b, rfl, (auto_), rfl, ?_⟩
   conv => whnf
   repeat' ((first|refine nI ?_|refine aI ?_|refine tI ?_|refine fI ?_|fail);conv => whnf)
   refine ⟨(k + 1, o'), ?_, ⟨by dsimp only; omega, h3⟩, by dsimp only; omega⟩
   dsimp only
   rw [e2]
   exact Sub.by_ [(5, .old 5), (7002, .old 7004), (7003, .old 7005)] _ 400 rfl (auto_) (auto_)
 obtain rfl : k = l.length := by omega
 rw [List.take_length] at hS hwt htk ⊢
 have b3 := InitialF p q s hp hq
 have hiE : iniE p q s = rpA (iniX p q s) 0 := by
  unfold iniE
  rw [if_neg (fun h => h S.hz), iniA_yes hik]
 rw [hiE] at b3
 have hX := iniX_le S hik
 have hXi := fun k (hk : k < (iniX p q s).length) => (iniX_mem S).1 (getD_memA cfg0 hk)
 generalize iniX p q s = cs at b3 hX hXi ⊢
 (refine oP (b3) ?_; conv => whnf)
 refine fI ?_
 conv => whnf
 refine WPc.loopF tt_ok mx_ok (fun i : Nat => i ≤ cs.length) (fun i => [(9, .int .i64 (i : Int))]) (fun _ => spB 5 l o) (fun i => cs.length - i) 0 (Nat.zero_le _) ?_; conv => whnf
 refine ⟨sI, ?_⟩
 rintro i hi
 conv => whnf
 refine cmpI ?_ ?_ <;> (intro g2; conv => whnf)
 ·have hil : i < cs.length := by omega
  have hc := hXi i hil
  have hr := S.rdy hc
  refine dI ?_
  conv => whnf
  refine nI ?_
  rw [tN]
  conv => whnf
  generalize cs.getD i cfg0 = d at hc hr ⊢
  (refine oC (CanonicalFR p s d hr) ?_; conv => whnf)
  repeat' ((first|refine nI ?_|refine aI ?_|refine tI ?_|refine fI ?_|fail);conv => whnf)
  refine Spec.call (lmE 5) (spM l o) 400 rfl (auto_) (auto_) (findR l o (canC p d) hS (by omega) hwt) ?_
  rintro u M' ⟨⟨j, h3, h4, rfl⟩ | ⟨h3, rfl⟩, rfl⟩
  ·refine ⟨[(5, .old 7001), (7002, .old 7002), (7003, .old 7003)], spB 5 l o, .int .i64 (j : Int), rfl, (auto_), rfl, ?_⟩
   conv => whnf
   refine fI ?_
   conv => whnf
   repeat' ((first|refine nI ?_|refine aI ?_|refine tI ?_|refine fI ?_|fail);conv => whnf)
   exact ⟨i + 1, sI, by omega, by dsimp only; omega⟩
  ·exact absurd ((hA.mem _).2 ⟨0, d, .ini hc, rfl⟩) h3
 refine WPc.loopF tt_ok mx_ok (fun i : Nat => i ≤ l.length) (fun i => [(12, .int .i64 (i : Int))]) (fun _ => spB 5 l o) (fun i => l.length - i) 0 (Nat.zero_le _) ?_; conv => whnf
 refine ⟨sI, ?_⟩
 rintro i2 hi2
 conv => whnf
 refine cmpI ?_ ?_ <;> (intro g3; conv => whnf)
 case refine_2 =>
  (refine oP (knownF) ?_; conv => whnf)
  exact ⟨rfl, rfl⟩
 refine cmpI ?_ ?_ <;> (intro g4; conv => whnf)
 case refine_2 =>
  (refine oP (knownF) ?_; conv => whnf)
  exact ⟨rfl, rfl⟩
 have hil : i2 < l.length := by omega
 have hr := hrd i2 hil
 have hrp := hA.rep _ (getD_memA cfg0 hil)
 have hap := hA.ap _ (getD_memA cfg0 hil)
 refine dI ?_
 conv => whnf
 refine nI ?_
 rw [tN]
 conv => whnf
 obtain ⟨c, hcc⟩ : ∃ c, c = l.getD i2 cfg0 := ⟨_, rfl⟩
 rw [← hcc] at hr hrp hap ⊢
 have b4 := StepsF p s c hp hr.wide
 have hst : stE p s c = sxA (stA p s c p.rules.length) 0 := by
  unfold stE
  rw [if_neg (by rw [hr.vcon]; exact fun h => h rfl)]
 rw [hst] at b4
 have hle := stA_le8 hr
 (refine oC (b4) ?_; conv => whnf)
 repeat' ((first|refine nI ?_|refine aI ?_|refine tI ?_|refine fI ?_|fail);conv => whnf)
 refine WPc.loopF tt_ok mx_ok (fun k : Nat => k ≤ (stA p s c p.rules.length).length) (fun k => [(15, .int .i64 (k : Int))]) (fun _ => spB 5 l o) (fun k => (stA p s c p.rules.length).length - k) 0 (Nat.zero_le _) ?_; conv => whnf
 refine ⟨sI, ?_⟩
 rintro k3 hk3
 conv => whnf
 refine cmpI ?_ ?_ <;> (intro g5; conv => whnf)
 ·have hkl : k3 < (stA p s c p.rules.length).length := by omega
  have hx := stA_mem.1 (getD_memA stp0 hkl)
  refine dI ?_
  conv => whnf
  refine nI ?_
  rw [tN]
  conv => whnf
  refine nI ?_
  rw [tN]
  conv => whnf
  rw [← hcc]
  generalize (stA p s c p.rules.length).getD k3 stp0 = x at hx ⊢
  have ha := hap x hx
  have hn := hr.next hx ha
  change Rdy p s (apC c (rulX p x) x) at hn
  have hnp := hrp.1.next S hx ha
  (refine oC (ApplyFP p s c x hr hx ha) ?_; conv => whnf)
  repeat' ((first|refine nI ?_|refine aI ?_|refine tI ?_|refine fI ?_|fail);conv => whnf)
  (refine oP (CanonicalFR p s (apC c (rulX p x) x) hn) ?_; conv => whnf)
  repeat' ((first|refine nI ?_|refine aI ?_|refine tI ?_|refine fI ?_|fail);conv => whnf)
  refine Spec.call (lmE 5) (spM l o) 400 rfl (auto_) (auto_) (findR l o (canC p (apC c (rulX p x) x)) hS (by omega) hwt) ?_
  rintro u M' ⟨⟨j, h3, h4, rfl⟩ | ⟨h3, rfl⟩, rfl⟩
  ·refine ⟨[(5, .old 7001), (7002, .old 7002), (7003, .old 7003)], spB 5 l o, .int .i64 (j : Int), rfl, (auto_), rfl, ?_⟩
   conv => whnf
   refine fI ?_
   conv => whnf
   repeat' ((first|refine nI ?_|refine aI ?_|refine tI ?_|refine fI ?_|fail);conv => whnf)
   exact ⟨k3 + 1, sI, by omega, by dsimp only; omega⟩
  ·obtain ⟨_, n, d, hw, hd⟩ := hnp
   exact absurd ((hA.mem _).2 ⟨n, d, hw, hd⟩) h3
 ·repeat' ((first|refine nI ?_|refine aI ?_|refine tI ?_|refine fI ?_|fail);conv => whnf)
  exact ⟨i2 + 1, sI, by omega, by dsimp only; omega⟩
end Go.Proofs.YtboelimimjojoaaGreatDoor
