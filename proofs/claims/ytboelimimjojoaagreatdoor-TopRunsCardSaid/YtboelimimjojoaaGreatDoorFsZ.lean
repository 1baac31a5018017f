import Derived.Test.YtboelimimjojoaaGreatDoorMH
import Derived.Test.YtboelimimjojoaaGreatDoorMJ
import Derived.Test.YtboelimimjojoaaGreatDoorMG
import Derived.Test.YtboelimimjojoaaGreatDoorM6
set_option linter.unusedVariables false
set_option linter.unusedSimpArgs false
namespace Go.Proofs.YtboelimimjojoaaGreatDoor
set_option maxRecDepth 100000
set_option maxHeartbeats 16000000
theorem Rdy.tr {p : Pro} {s : Siz} {c : Cfg} (h : Rdy p s c) : trB p c := fun ht => by
 obtain ⟨_, _, _, hf⟩ := validE_noc h.val (by omega)
 have h1 := h.vc.len
 have h2 := h.vc.tre ht
 unfold modN at h1
 rw [if_neg (by omega)] at h1
 exact ⟨by omega, h2.2⟩
theorem BadFR (p : Pro) (q : Prp) (s : Siz) (c : Cfg) (S : Sys p q s) (hk : q.kind = 1) (h : Rdy p s c) : PSpec Tryz.prog 17 [.agg (encP p), .agg (encQ q), .agg (encC c)] (fun u => u = .tup [.bool (decide (badB p q c)), .int .i64 0]) := by
 have hB := BadF p q c S.hp S.hq h.wide
 have h1 := S.siz.1
 unfold bdE at hB
 rw [if_neg (by omega), if_neg (by omega), if_pos ⟨h.plain, h.tr⟩] at hB
 exact hB
theorem shp3 : (shpT (Int.toNat 3)).length = 1 := by decide
theorem shapesTF : PSpec Tryz.prog 13 [] (fun u => u = .bool true) := by
 have hs := unfoldShapesF 3
 rw [shapesR_in (by decide)] at hs
 refine PSpec.intro tt_ok mx_ok Tryz.func13 rfl (by decide) ?_; (conv => whnf)
 (refine oP (hs) ?_; conv => whnf)
 refine cmpT rfl ?_
 conv => whnf
 refine cmpT (by rw [shp3]; rfl) ?_
 conv => whnf
 exact ⟨rfl, rfl⟩
theorem ShA.zero {p : Pro} {q : Prp} {s : Siz} (hp : ¬ bigP p) (hq : ¬ bigQ q) {r : Rn} {is : Bool} {e : Int} (h : ShA p q s r is e) (he : e = 0) : Sys p q s ∧ q.kind = 1 ∧ iniK p q s := by
 by_cases h0 : sizQ p q s = 0
 ·by_cases h1 : q.kind = 1
  ·rcases (h.ok h0 h1).out with ⟨_, _, a⟩ | ⟨a, _⟩
   ·omega
   ·exact ⟨⟨hp, hq, h0⟩, h1, a⟩
  ·have := (h.cls h0 h1).2.2; omega
 ·have := (h.bad h0).2.2; omega
theorem Wn.vio {p : Pro} {q : Prp} {s : Siz} (S : Sys p q s) (hk : q.kind = 1) {n : Nat} {c : Cfg} (h : Wn p q s n c) (hb : badB p q c) : ∃ t, vioB p q s t ∧ t.steps.length = n := by
 obtain ⟨c0, l, h1, h2, h3, h4⟩ := h.to_run
 refine ⟨⟨c0, l⟩, ⟨S.hz, hk, h1, h2, ?_⟩, h3⟩
 show badB p q ((trs p c0 l).getD l.length cfg0)
 rw [h4]
 exact hb
theorem trs_wn {p : Pro} {q : Prp} {s : Siz} {c : Cfg} {xs : List Stp} (hI : isI p q s c) (hok : runOk p s c xs) {i : Nat} (hi : i ≤ xs.length) : Wn p q s i ((trs p c xs).getD i cfg0) := by
 have h := (Wn.ini (q := q) hI).of_run (runOk_take i hok)
 have e : (xs.take i).length = i := by rw [List.length_take]; omega
 rw [e, Nat.zero_add, trs_take, gD, List.getElem?_take, if_pos (by omega), ← gD] at h
 exact h
theorem bad_all {p : Pro} {q : Prp} {s : Siz} (hp : ¬ bigP p) (hq : ¬ bigQ q) {w : Rn} {is : Bool} {e : Int} (hA : ShA p q s w is e) (he : e = 0) {l : List Cfg} (hl : All p q s l) : (∃ c ∈ l, badB p q c) ↔ is = true := by
 obtain ⟨S, hk, _⟩ := hA.zero hp hq he
 constructor
 ·rintro ⟨c, hc, hb⟩
  obtain ⟨n, d, h1, h2⟩ := (hl.mem c).1 hc
  have hd : badB p q d := (bad_can (h1.rdy S) (hl.rep c hc).1.1 (by rw [h2, (hl.rep c hc).2])).2 hb
  obtain ⟨t, ht, _⟩ := h1.vio S hk hd
  exact (hA.least hp hq he ht).1
 ·intro hi
  obtain ⟨_, hv, _⟩ := hA.yes hi
  have h1 := trs_wn hv.2.2.1 hv.2.2.2.1 (Nat.le_refl _)
  refine ⟨_, (hl.mem _).2 ⟨_, _, h1, rfl⟩, ?_⟩
  rw [canC_bad p q (h1.rdy S).plain.2.2]
  exact hv.2.2.2.2
theorem lawTopRuns (p : Pro) (q : Prp) (s : Siz) (r : Rn) : PSpec Tryz.prog 3 [.agg (encCs p q s), .agg (encRn r)] (fun u => u = .bool true) := by
 refine PSpec.intro tt_ok mx_ok Tryz.func3 rfl (by decide) ?_; (conv => whnf)
 refine boxP rfl ?_
 conv => whnf
 refine boxL ?_
 conv => whnf
 refine dC (bigF p) (fun _ => ?_) (fun _ => ?_) <;> (conv => whnf)
 ·(refine oP (shapesTF) ?_; conv => whnf)
  exact ⟨rfl, rfl⟩
 rename_i hp
 refine dC (bigQF q) (fun _ => ?_) (fun _ => ?_) <;> (conv => whnf)
 ·(refine oP (shapesTF) ?_; conv => whnf)
  exact ⟨rfl, rfl⟩
 rename_i hq
 have hW := wideF r.start
 cases hw : wideB r.start with
 |true =>
  rw [hw] at hW
  (refine oP (hW) ?_; conv => whnf)
  (refine oP (shapesTF) ?_; conv => whnf)
  exact ⟨rfl, rfl⟩
 |false =>
 rw [hw] at hW
 (refine oP (hW) ?_; conv => whnf)
 refine cmpI ?_ ?_ <;> (intro g1; conv => whnf)
 ·(refine oP (shapesTF) ?_; conv => whnf)
  exact ⟨rfl, rfl⟩
 refine cmpI ?_ ?_ <;> (intro g2; conv => whnf)
 ·(refine oP (shapesTF) ?_; conv => whnf)
  exact ⟨rfl, rfl⟩
 refine Spec.of_pure (n := 5) (ShortestF p q s hp hq) rfl ?_
 rintro _ ⟨w, is, e, rfl, hA⟩
 by_cases he : e = 0
 case neg =>
  have his : is = false := by
   cases is with
   |false => rfl
   |true => exact absurd (hA.yes rfl).1 he
  subst his
  have h1 := hA.no rfl
  subst h1
  conv => whnf
  refine cmpT he ?_
  conv => whnf
  refine cmpT rfl ?_
  conv => whnf
  (refine oP (shapesTF) ?_; conv => whnf)
  exact ⟨rfl, rfl⟩
 obtain ⟨S, hk, _⟩ := hA.zero hp hq he
 have hV := IsViolationF p q s r hp hq hw (by omega)
 have hR := ReachF p q s hp hq
 cases is with
 |true =>
  obtain ⟨_, hw1, hw2, hw3⟩ := hA.yes rfl
  have hVw := IsViolationF p q s w hp hq hw2 (by omega)
  rw [decide_eq_true hw1] at hVw
  by_cases hv : vioB p q s r
  ·rw [decide_eq_true hv] at hV
   have hle := (hA.least hp hq he hv).2
   conv => whnf
   refine cmpF (fun h => h he) ?_
   conv => whnf
   (refine oP (hV) ?_; conv => whnf)
   refine fI ?_
   conv => whnf
   (refine oP (hVw) ?_; conv => whnf)
   rcases rchE_cases p q s hp hq with ⟨l, h1, hAll, _⟩ | ⟨e2, he2, h1⟩
   case inr =>
    rw [h1] at hR
    (refine oP (hR) ?_; conv => whnf)
    refine cmpT he2 ?_
    conv => whnf
    (refine oP (shapesTF) ?_; conv => whnf)
    exact ⟨rfl, rfl⟩
   rw [h1] at hR
   (refine oP (hR) ?_; conv => whnf)
   refine fI ?_
   conv => whnf
   have hll := hAll.le
   have hbd := bad_all hp hq hA he hAll
   have hwid : ∀ d ∈ l, wideB d = false := fun d hd => (hAll.rep d hd).1.1.wide
   have hrd : ∀ i, i < l.length → Rdy p s (l.getD i cfg0) := fun i hi => (hAll.rep _ (getD_memA cfg0 hi)).1.1
   refine WPc.loopF tt_ok mx_ok (fun z : Nat × List Int × Bool => z.1 ≤ l.length ∧ SpI (l.take z.1) z.2.1 ∧ (z.2.2 = true ↔ ∃ c ∈ l.take z.1, badB p q c)) (fun z => [(13, .int .i64 (z.1 : Int)), (12, .bool z.2.2)]) (fun z => (3, .box 39 (encRn r)) :: (5, .box 39 (encRn w)) :: spB 11 (l.take z.1) z.2.1) (fun z => l.length - z.1) (0, [], false) ⟨Nat.zero_le _, SpI.nil, fun h => (by cases h), fun ⟨c, hc, _⟩ => absurd hc List.not_mem_nil⟩ ?_; conv => whnf
   refine ⟨Sub.by_ [(3, .old 3), (5, .old 5), (11, .old 11), (7002, .nil 6), (7003, .nil 1)] _ 400 rfl (auto_) (auto_), ?_⟩
   rintro ⟨k, o, b⟩ ⟨hk1, hS, hbb⟩
   dsimp only at hk1 hS hbb ⊢
   have htk : (l.take k).length ≤ 4000 := by rw [List.length_take]; omega
   have hwt : ∀ d ∈ l.take k, wideB d = false := fun d hd => hwid d (List.mem_of_mem_take hd)
   conv => whnf
   refine cmpI ?_ ?_ <;> (intro g3; conv => whnf)
   ·have hlt : k < l.length := by omega
    have hr := hrd k hlt
    have e2 := adC_take hAll.asc hlt
    have e3 := takeC_up hlt
    have hB := BadFR p q s (l.getD k cfg0) S hk hr
    refine dI ?_
    conv => whnf
    refine nI ?_
    rw [tN]
    conv => whnf
    by_cases hbk : badB p q (l.getD k cfg0)
    ·rw [decide_eq_true hbk] at hB
     have hup : ∃ c ∈ l.take (k + 1), badB p q c := ⟨_, by rw [e3]; exact List.mem_append_right _ List.mem_cons_self, hbk⟩
     (refine oC (hB) ?_; conv => whnf)
     repeat' ((first|refine nI ?_|refine aI ?_|refine tI ?_|refine fI ?_|fail);conv => whnf)
     cases b with
     |true =>
      refine nI ?_
      rw [tN]
      conv => whnf
      refine Spec.call (lmE 11) (spM (l.take k) o) 400 rfl (auto_) (auto_) (addR (l.take k) o (l.getD k cfg0) hS (by omega) hwt) ?_
      rintro u M' ⟨o', b2, h3, h4, rfl, rfl⟩
      rw [e2] at h3
      refine ⟨lbE 11, spE 11 (adC (l.take k) (l.getD k cfg0)) o', .bool b2, rfl, (auto_), rfl, ?_⟩
      conv => whnf
      repeat' ((first|refine nI ?_|refine aI ?_|refine tI ?_|refine fI ?_|fail);conv => whnf)
      refine ⟨(k + 1, o', true), ?_, ⟨by dsimp only; omega, h3, ⟨fun _ => hup, fun _ => rfl⟩⟩, by dsimp only; omega⟩
      dsimp only
      rw [e2]
      exact Sub.by_ [(3, .old 3), (5, .old 5), (11, .old 11), (7002, .old 7004), (7003, .old 7005)] _ 400 rfl (auto_) (auto_)
     |false =>
      refine nI ?_
      rw [tN]
      conv => whnf
      refine Spec.call (lmE 11) (spM (l.take k) o) 400 rfl (auto_) (auto_) (addR (l.take k) o (l.getD k cfg0) hS (by omega) hwt) ?_
      rintro u M' ⟨o', b2, h3, h4, rfl, rfl⟩
      rw [e2] at h3
      refine ⟨lbE 11, spE 11 (adC (l.take k) (l.getD k cfg0)) o', .bool b2, rfl, (auto_), rfl, ?_⟩
      conv => whnf
      repeat' ((first|refine nI ?_|refine aI ?_|refine tI ?_|refine fI ?_|fail);conv => whnf)
      refine ⟨(k + 1, o', true), ?_, ⟨by dsimp only; omega, h3, ⟨fun _ => hup, fun _ => rfl⟩⟩, by dsimp only; omega⟩
      dsimp only
      rw [e2]
      exact Sub.by_ [(3, .old 3), (5, .old 5), (11, .old 11), (7002, .old 7004), (7003, .old 7005)] _ 400 rfl (auto_) (auto_)
    ·rw [decide_eq_false hbk] at hB
     have hup : (∃ c ∈ l.take (k + 1), badB p q c) ↔ ∃ c ∈ l.take k, badB p q c := by
      rw [e3]
      constructor
      ·rintro ⟨c, hc, h⟩
       rcases List.mem_append.1 hc with hc | hc
       ·exact ⟨c, hc, h⟩
       ·rw [List.mem_singleton] at hc
        subst hc
        exact absurd h hbk
      ·rintro ⟨c, hc, h⟩
       exact ⟨c, List.mem_append_left _ hc, h⟩
     (refine oC (hB) ?_; conv => whnf)
     repeat' ((first|refine nI ?_|refine aI ?_|refine tI ?_|refine fI ?_|fail);conv => whnf)
     cases b with
     |true =>
      refine nI ?_
      rw [tN]
      conv => whnf
      refine Spec.call (lmE 11) (spM (l.take k) o) 400 rfl (auto_) (auto_) (addR (l.take k) o (l.getD k cfg0) hS (by omega) hwt) ?_
      rintro u M' ⟨o', b2, h3, h4, rfl, rfl⟩
      rw [e2] at h3
      refine ⟨lbE 11, spE 11 (adC (l.take k) (l.getD k cfg0)) o', .bool b2, rfl, (auto_), rfl, ?_⟩
      conv => whnf
      repeat' ((first|refine nI ?_|refine aI ?_|refine tI ?_|refine fI ?_|fail);conv => whnf)
      refine ⟨(k + 1, o', true), ?_, ⟨by dsimp only; omega, h3, by rw [hup]; exact hbb⟩, by dsimp only; omega⟩
      dsimp only
      rw [e2]
      exact Sub.by_ [(3, .old 3), (5, .old 5), (11, .old 11), (7002, .old 7004), (7003, .old 7005)] _ 400 rfl (auto_) (auto_)
     |false =>
      refine nI ?_
      rw [tN]
      conv => whnf
      refine Spec.call (lmE 11) (spM (l.take k) o) 400 rfl (auto_) (auto_) (addR (l.take k) o (l.getD k cfg0) hS (by omega) hwt) ?_
      rintro u M' ⟨o', b2, h3, h4, rfl, rfl⟩
      rw [e2] at h3
      refine ⟨lbE 11, spE 11 (adC (l.take k) (l.getD k cfg0)) o', .bool b2, rfl, (auto_), rfl, ?_⟩
      conv => whnf
      repeat' ((first|refine nI ?_|refine aI ?_|refine tI ?_|refine fI ?_|fail);conv => whnf)
      refine ⟨(k + 1, o', false), ?_, ⟨by dsimp only; omega, h3, by rw [hup]; exact hbb⟩, by dsimp only; omega⟩
      dsimp only
      rw [e2]
      exact Sub.by_ [(3, .old 3), (5, .old 5), (11, .old 11), (7002, .old 7004), (7003, .old 7005)] _ 400 rfl (auto_) (auto_)
   obtain rfl : k = l.length := by omega
   rw [List.take_length] at hS hwt htk hbb ⊢
   have eb : b = true := by
    cases b with
    |true => exact rfl
    |false => exact (absurd (hbb.2 (hbd.2 rfl)) (by decide))
   subst eb
   have hr1 : rpT p s w = rp p s [w.start] w.start w.steps := by
    unfold rpT
    rw [if_neg (by have := S.siz.2; omega), if_pos hw1.2.2.1.1]
   have b1 := ReplayF p s w hp hw2 (by omega)
   rw [hr1, rp_ok hw1.2.2.2.1] at b1
   have b1' : PSpec Tryz.prog 20 [.agg (encP p), .agg (encZ s), .agg (encRn w)] (fun u => u = rpA (trs p w.start w.steps) 0) := b1
   have hm : ∀ i, i < (trs p w.start w.steps).length → Wn p q s i ((trs p w.start w.steps).getD i cfg0) ∧ (badB p q ((trs p w.start w.steps).getD i cfg0) → w.steps.length ≤ i) := fun i hi => by
    rw [trs_len] at hi
    have h5 := trs_wn hw1.2.2.1 hw1.2.2.2.1 (show i ≤ w.steps.length by omega)
    refine ⟨h5, fun hb => ?_⟩
    obtain ⟨t, ht, hlen⟩ := h5.vio S hk hb
    have := (hA.least hp hq he ht).2
    omega
   have hml : (trs p w.start w.steps).length ≤ 4001 := by rw [trs_len]; omega
   generalize trs p w.start w.steps = m at b1' hm hml ⊢
   conv => whnf
   (refine oP (b1') ?_; conv => whnf)
   refine WPc.loopF tt_ok mx_ok (fun i : Nat => i ≤ m.length) (fun i => [(18, .int .i64 (i : Int))]) (fun _ => (3, .box 39 (encRn w)) :: (5, .box 39 (encRn w)) :: spB 11 l o) (fun i => m.length - i) 0 (Nat.zero_le _) ?_; conv => whnf
   refine ⟨sI, ?_⟩
   rintro i hi
   conv => whnf
   refine cmpI ?_ ?_ <;> (intro g5; conv => whnf)
   ·have hil : i < m.length := by omega
    obtain ⟨hwn, hnb⟩ := hm i hil
    have hr := hwn.rdy S
    have hB := BadFR p q s (m.getD i cfg0) S hk hr
    refine dI ?_
    conv => whnf
    refine nI ?_
    rw [tN]
    conv => whnf
    (refine oC (CanonicalFR p s (m.getD i cfg0) hr) ?_; conv => whnf)
    repeat' ((first|refine nI ?_|refine aI ?_|refine tI ?_|refine fI ?_|fail);conv => whnf)
    refine dI ?_
    conv => whnf
    refine nI ?_
    rw [tN]
    conv => whnf
    by_cases hbk : badB p q (m.getD i cfg0)
    ·rw [decide_eq_true hbk] at hB
     have hge := hnb hbk
     (refine oC (hB) ?_; conv => whnf)
     repeat' ((first|refine nI ?_|refine aI ?_|refine tI ?_|refine fI ?_|fail);conv => whnf)
     refine Spec.call (lmE 11) (spM l o) 400 rfl (auto_) (auto_) (findR l o (canC p (m.getD i cfg0)) hS (by omega) hwt) ?_
     rintro u M' ⟨⟨j, h3, h4, rfl⟩ | ⟨h3, rfl⟩, rfl⟩
     case inr => exact absurd ((hAll.mem _).2 ⟨i, _, hwn, rfl⟩) h3
     refine ⟨[(11, .old 7001), (7002, .old 7002), (7003, .old 7003)], spB 11 l o, .int .i64 (j : Int), rfl, (auto_), rfl, ?_⟩
     conv => whnf
     refine fI ?_
     conv => whnf
     refine fI ?_
     conv => whnf
     repeat' ((first|refine nI ?_|refine aI ?_|refine tI ?_|refine fI ?_|fail);conv => whnf)
     exact ⟨i + 1, sI, by omega, by dsimp only; omega⟩
    ·rw [decide_eq_false hbk] at hB
     (refine oC (hB) ?_; conv => whnf)
     repeat' ((first|refine nI ?_|refine aI ?_|refine tI ?_|refine fI ?_|fail);conv => whnf)
     refine Spec.call (lmE 11) (spM l o) 400 rfl (auto_) (auto_) (findR l o (canC p (m.getD i cfg0)) hS (by omega) hwt) ?_
     rintro u M' ⟨⟨j, h3, h4, rfl⟩ | ⟨h3, rfl⟩, rfl⟩
     case inr => exact absurd ((hAll.mem _).2 ⟨i, _, hwn, rfl⟩) h3
     refine ⟨[(11, .old 7001), (7002, .old 7002), (7003, .old 7003)], spB 11 l o, .int .i64 (j : Int), rfl, (auto_), rfl, ?_⟩
     conv => whnf
     refine fI ?_
     conv => whnf
     repeat' ((first|refine nI ?_|refine aI ?_|refine tI ?_|refine fI ?_|fail);conv => whnf)
     exact ⟨i + 1, sI, by omega, by dsimp only; omega⟩
   refine cmpT rfl ?_
   conv => whnf
   (refine oP (shapesTF) ?_; conv => whnf)
   exact ⟨rfl, rfl⟩
  ·rw [decide_eq_false hv] at hV
   conv => whnf
   refine cmpF (fun h => h he) ?_
   conv => whnf
   (refine oP (hV) ?_; conv => whnf)
   (refine oP (hVw) ?_; conv => whnf)
   rcases rchE_cases p q s hp hq with ⟨l, h1, hAll, _⟩ | ⟨e2, he2, h1⟩
   case inr =>
    rw [h1] at hR
    (refine oP (hR) ?_; conv => whnf)
    refine cmpT he2 ?_
    conv => whnf
    (refine oP (shapesTF) ?_; conv => whnf)
    exact ⟨rfl, rfl⟩
   rw [h1] at hR
   (refine oP (hR) ?_; conv => whnf)
   refine fI ?_
   conv => whnf
   have hll := hAll.le
   have hbd := bad_all hp hq hA he hAll
   have hwid : ∀ d ∈ l, wideB d = false := fun d hd => (hAll.rep d hd).1.1.wide
   have hrd : ∀ i, i < l.length → Rdy p s (l.getD i cfg0) := fun i hi => (hAll.rep _ (getD_memA cfg0 hi)).1.1
   refine WPc.loopF tt_ok mx_ok (fun z : Nat × List Int × Bool => z.1 ≤ l.length ∧ SpI (l.take z.1) z.2.1 ∧ (z.2.2 = true ↔ ∃ c ∈ l.take z.1, badB p q c)) (fun z => [(13, .int .i64 (z.1 : Int)), (12, .bool z.2.2)]) (fun z => (3, .box 39 (encRn r)) :: (5, .box 39 (encRn w)) :: spB 11 (l.take z.1) z.2.1) (fun z => l.length - z.1) (0, [], false) ⟨Nat.zero_le _, SpI.nil, fun h => (by cases h), fun ⟨c, hc, _⟩ => absurd hc List.not_mem_nil⟩ ?_; conv => whnf
   refine ⟨Sub.by_ [(3, .old 3), (5, .old 5), (11, .old 11), (7002, .nil 6), (7003, .nil 1)] _ 400 rfl (auto_) (auto_), ?_⟩
   rintro ⟨k, o, b⟩ ⟨hk1, hS, hbb⟩
   dsimp only at hk1 hS hbb ⊢
   have htk : (l.take k).length ≤ 4000 := by rw [List.length_take]; omega
   have hwt : ∀ d ∈ l.take k, wideB d = false := fun d hd => hwid d (List.mem_of_mem_take hd)
   conv => whnf
   refine cmpI ?_ ?_ <;> (intro g3; conv => whnf)
   ·have hlt : k < l.length := by omega
    have hr := hrd k hlt
    have e2 := adC_take hAll.asc hlt
    have e3 := takeC_up hlt
    have hB := BadFR p q s (l.getD k cfg0) S hk hr
    refine dI ?_
    conv => whnf
    refine nI ?_
    rw [tN]
    conv => whnf
    by_cases hbk : badB p q (l.getD k cfg0)
    ·rw [decide_eq_true hbk] at hB
     have hup : ∃ c ∈ l.take (k + 1), badB p q c := ⟨_, by rw [e3]; exact List.mem_append_right _ List.mem_cons_self, hbk⟩
     (refine oC (hB) ?_; conv => whnf)
     repeat' ((first|refine nI ?_|refine aI ?_|refine tI ?_|refine fI ?_|fail);conv => whnf)
     cases b with
     |true =>
      refine nI ?_
      rw [tN]
      conv => whnf
      refine Spec.call (lmE 11) (spM (l.take k) o) 400 rfl (auto_) (auto_) (addR (l.take k) o (l.getD k cfg0) hS (by omega) hwt) ?_
      rintro u M' ⟨o', b2, h3, h4, rfl, rfl⟩
      rw [e2] at h3
      refine ⟨lbE 11, spE 11 (adC (l.take k) (l.getD k cfg0)) o', .bool b2, rfl, (auto_), rfl, ?_⟩
      conv => whnf
      repeat' ((first|refine nI ?_|refine aI ?_|refine tI ?_|refine fI ?_|fail);conv => whnf)
      refine ⟨(k + 1, o', true), ?_, ⟨by dsimp only; omega, h3, ⟨fun _ => hup, fun _ => rfl⟩⟩, by dsimp only; omega⟩
      dsimp only
      rw [e2]
      exact Sub.by_ [(3, .old 3), (5, .old 5), (11, .old 11), (7002, .old 7004), (7003, .old 7005)] _ 400 rfl (auto_) (auto_)
     |false =>
      refine nI ?_
      rw [tN]
      conv => whnf
      refine Spec.call (lmE 11) (spM (l.take k) o) 400 rfl (auto_) (auto_) (addR (l.take k) o (l.getD k cfg0) hS (by omega) hwt) ?_
      rintro u M' ⟨o', b2, h3, h4, rfl, rfl⟩
      rw [e2] at h3
      refine ⟨lbE 11, spE 11 (adC (l.take k) (l.getD k cfg0)) o', .bool b2, rfl, (auto_), rfl, ?_⟩
      conv => whnf
      repeat' ((first|refine nI ?_|refine aI ?_|refine tI ?_|refine fI ?_|fail);conv => whnf)
      refine ⟨(k + 1, o', true), ?_, ⟨by dsimp only; omega, h3, ⟨fun _ => hup, fun _ => rfl⟩⟩, by dsimp only; omega⟩
      dsimp only
      rw [e2]
      exact Sub.by_ [(3, .old 3), (5, .old 5), (11, .old 11), (7002, .old 7004), (7003, .old 7005)] _ 400 rfl (auto_) (auto_)
    ·rw [decide_eq_false hbk] at hB
     have hup : (∃ c ∈ l.take (k + 1), badB p q c) ↔ ∃ c ∈ l.take k, badB p q c := by
      rw [e3]
      constructor
      ·rintro ⟨c, hc, h⟩
       rcases List.mem_append.1 hc with hc | hc
       ·exact ⟨c, hc, h⟩
       ·rw [List.mem_singleton] at hc
        subst hc
        exact absurd h hbk
      ·rintro ⟨c, hc, h⟩
       exact ⟨c, List.mem_append_left _ hc, h⟩
     (refine oC (hB) ?_; conv => whnf)
     repeat' ((first|refine nI ?_|refine aI ?_|refine tI ?_|refine fI ?_|fail);conv => whnf)
     cases b with
     |true =>
      refine nI ?_
      rw [tN]
      conv => whnf
      refine Spec.call (lmE 11) (spM (l.take k) o) 400 rfl (auto_) (auto_) (addR (l.take k) o (l.getD k cfg0) hS (by omega) hwt) ?_
      rintro u M' ⟨o', b2, h3, h4, rfl, rfl⟩
      rw [e2] at h3
      refine ⟨lbE 11, spE 11 (adC (l.take k) (l.getD k cfg0)) o', .bool b2, rfl, (auto_), rfl, ?_⟩
      conv => whnf
      repeat' ((first|refine nI ?_|refine aI ?_|refine tI ?_|refine fI ?_|fail);conv => whnf)
      refine ⟨(k + 1, o', true), ?_, ⟨by dsimp only; omega, h3, by rw [hup]; exact hbb⟩, by dsimp only; omega⟩
      dsimp only
      rw [e2]
      exact Sub.by_ [(3, .old 3), (5, .old 5), (11, .old 11), (7002, .old 7004), (7003, .old 7005)] _ 400 rfl (auto_) (auto_)
     |false =>
      refine nI ?_
      rw [tN]
      conv => whnf
      refine Spec.call (lmE 11) (spM (l.take k) o) 400 rfl (auto_) (auto_) (addR (l.take k) o (l.getD k cfg0) hS (by omega) hwt) ?_
      rintro u M' ⟨o', b2, h3, h4, rfl, rfl⟩
      rw [e2] at h3
      refine ⟨lbE 11, spE 11 (adC (l.take k) (l.getD k cfg0)) o', .bool b2, rfl, (auto_), rfl, ?_⟩
      conv => whnf
      repeat' ((first|refine nI ?_|refine aI ?_|refine tI ?_|refine fI ?_|fail);conv => whnf)
      refine ⟨(k + 1, o', false), ?_, ⟨by dsimp only; omega, h3, by rw [hup]; exact hbb⟩, by dsimp only; omega⟩
      dsimp only
      rw [e2]
      exact Sub.by_ [(3, .old 3), (5, .old 5), (11, .old 11), (7002, .old 7004), (7003, .old 7005)] _ 400 rfl (auto_) (auto_)
   obtain rfl : k = l.length := by omega
   rw [List.take_length] at hS hwt htk hbb ⊢
   have eb : b = true := by
    cases b with
    |true => exact rfl
    |false => exact (absurd (hbb.2 (hbd.2 rfl)) (by decide))
   subst eb
   have hr1 : rpT p s w = rp p s [w.start] w.start w.steps := by
    unfold rpT
    rw [if_neg (by have := S.siz.2; omega), if_pos hw1.2.2.1.1]
   have b1 := ReplayF p s w hp hw2 (by omega)
   rw [hr1, rp_ok hw1.2.2.2.1] at b1
   have b1' : PSpec Tryz.prog 20 [.agg (encP p), .agg (encZ s), .agg (encRn w)] (fun u => u = rpA (trs p w.start w.steps) 0) := b1
   have hm : ∀ i, i < (trs p w.start w.steps).length → Wn p q s i ((trs p w.start w.steps).getD i cfg0) ∧ (badB p q ((trs p w.start w.steps).getD i cfg0) → w.steps.length ≤ i) := fun i hi => by
    rw [trs_len] at hi
    have h5 := trs_wn hw1.2.2.1 hw1.2.2.2.1 (show i ≤ w.steps.length by omega)
    refine ⟨h5, fun hb => ?_⟩
    obtain ⟨t, ht, hlen⟩ := h5.vio S hk hb
    have := (hA.least hp hq he ht).2
    omega
   have hml : (trs p w.start w.steps).length ≤ 4001 := by rw [trs_len]; omega
   generalize trs p w.start w.steps = m at b1' hm hml ⊢
   conv => whnf
   (refine oP (b1') ?_; conv => whnf)
   refine WPc.loopF tt_ok mx_ok (fun i : Nat => i ≤ m.length) (fun i => [(18, .int .i64 (i : Int))]) (fun _ => (3, .box 39 (encRn w)) :: (5, .box 39 (encRn w)) :: spB 11 l o) (fun i => m.length - i) 0 (Nat.zero_le _) ?_; conv => whnf
   refine ⟨sI, ?_⟩
   rintro i hi
   conv => whnf
   refine cmpI ?_ ?_ <;> (intro g5; conv => whnf)
   ·have hil : i < m.length := by omega
    obtain ⟨hwn, hnb⟩ := hm i hil
    have hr := hwn.rdy S
    have hB := BadFR p q s (m.getD i cfg0) S hk hr
    refine dI ?_
    conv => whnf
    refine nI ?_
    rw [tN]
    conv => whnf
    (refine oC (CanonicalFR p s (m.getD i cfg0) hr) ?_; conv => whnf)
    repeat' ((first|refine nI ?_|refine aI ?_|refine tI ?_|refine fI ?_|fail);conv => whnf)
    refine dI ?_
    conv => whnf
    refine nI ?_
    rw [tN]
    conv => whnf
    by_cases hbk : badB p q (m.getD i cfg0)
    ·rw [decide_eq_true hbk] at hB
     have hge := hnb hbk
     (refine oC (hB) ?_; conv => whnf)
     repeat' ((first|refine nI ?_|refine aI ?_|refine tI ?_|refine fI ?_|fail);conv => whnf)
     refine Spec.call (lmE 11) (spM l o) 400 rfl (auto_) (auto_) (findR l o (canC p (m.getD i cfg0)) hS (by omega) hwt) ?_
     rintro u M' ⟨⟨j, h3, h4, rfl⟩ | ⟨h3, rfl⟩, rfl⟩
     case inr => exact absurd ((hAll.mem _).2 ⟨i, _, hwn, rfl⟩) h3
     refine ⟨[(11, .old 7001), (7002, .old 7002), (7003, .old 7003)], spB 11 l o, .int .i64 (j : Int), rfl, (auto_), rfl, ?_⟩
     conv => whnf
     refine fI ?_
     conv => whnf
     refine fI ?_
     conv => whnf
     repeat' ((first|refine nI ?_|refine aI ?_|refine tI ?_|refine fI ?_|fail);conv => whnf)
     exact ⟨i + 1, sI, by omega, by dsimp only; omega⟩
    ·rw [decide_eq_false hbk] at hB
     (refine oC (hB) ?_; conv => whnf)
     repeat' ((first|refine nI ?_|refine aI ?_|refine tI ?_|refine fI ?_|fail);conv => whnf)
     refine Spec.call (lmE 11) (spM l o) 400 rfl (auto_) (auto_) (findR l o (canC p (m.getD i cfg0)) hS (by omega) hwt) ?_
     rintro u M' ⟨⟨j, h3, h4, rfl⟩ | ⟨h3, rfl⟩, rfl⟩
     case inr => exact absurd ((hAll.mem _).2 ⟨i, _, hwn, rfl⟩) h3
     refine ⟨[(11, .old 7001), (7002, .old 7002), (7003, .old 7003)], spB 11 l o, .int .i64 (j : Int), rfl, (auto_), rfl, ?_⟩
     conv => whnf
     refine fI ?_
     conv => whnf
     repeat' ((first|refine nI ?_|refine aI ?_|refine tI ?_|refine fI ?_|fail);conv => whnf)
     exact ⟨i + 1, sI, by omega, by dsimp only; omega⟩
   refine cmpT rfl ?_
   conv => whnf
   (refine oP (shapesTF) ?_; conv => whnf)
   exact ⟨rfl, rfl⟩
 |false =>
  have hv : ¬ vioB p q s r := fun h => by
   have := (hA.least hp hq he h).1
   cases this
  rw [decide_eq_false hv] at hV
  conv => whnf
  refine cmpF (fun h => h he) ?_
  conv => whnf
  (refine oP (hV) ?_; conv => whnf)
  rcases rchE_cases p q s hp hq with ⟨l, h1, hAll, _⟩ | ⟨e2, he2, h1⟩
  case inr =>
   rw [h1] at hR
   (refine oP (hR) ?_; conv => whnf)
   refine cmpT he2 ?_
   conv => whnf
   (refine oP (shapesTF) ?_; conv => whnf)
   exact ⟨rfl, rfl⟩
  rw [h1] at hR
  (refine oP (hR) ?_; conv => whnf)
  refine fI ?_
  conv => whnf
  have hll := hAll.le
  have hbd := bad_all hp hq hA he hAll
  have hwid : ∀ d ∈ l, wideB d = false := fun d hd => (hAll.rep d hd).1.1.wide
  have hrd : ∀ i, i < l.length → Rdy p s (l.getD i cfg0) := fun i hi => (hAll.rep _ (getD_memA cfg0 hi)).1.1
  refine WPc.loopF tt_ok mx_ok (fun z : Nat × List Int × Bool => z.1 ≤ l.length ∧ SpI (l.take z.1) z.2.1 ∧ (z.2.2 = true ↔ ∃ c ∈ l.take z.1, badB p q c)) (fun z => [(13, .int .i64 (z.1 : Int)), (12, .bool z.2.2)]) (fun z => (3, .box 39 (encRn r)) :: (5, .box 39 (encRn w)) :: spB 11 (l.take z.1) z.2.1) (fun z => l.length - z.1) (0, [], false) ⟨Nat.zero_le _, SpI.nil, fun h => (by cases h), fun ⟨c, hc, _⟩ => absurd hc List.not_mem_nil⟩ ?_; conv => whnf
  refine ⟨Sub.by_ [(3, .old 3), (5, .old 5), (11, .old 11), (7002, .nil 6), (7003, .nil 1)] _ 400 rfl (auto_) (auto_), ?_⟩
  rintro ⟨k, o, b⟩ ⟨hk1, hS, hbb⟩
  dsimp only at hk1 hS hbb ⊢
  have htk : (l.take k).length ≤ 4000 := by rw [List.length_take]; omega
  have hwt : ∀ d ∈ l.take k, wideB d = false := fun d hd => hwid d (List.mem_of_mem_take hd)
  conv => whnf
  refine cmpI ?_ ?_ <;> (intro g3; conv => whnf)
  ·have hlt : k < l.length := by omega
   have hr := hrd k hlt
   have e2 := adC_take hAll.asc hlt
   have e3 := takeC_up hlt
   have hB := BadFR p q s (l.getD k cfg0) S hk hr
   refine dI ?_
   conv => whnf
   refine nI ?_
   rw [tN]
   conv => whnf
   by_cases hbk : badB p q (l.getD k cfg0)
   ·rw [decide_eq_true hbk] at hB
    have hup : ∃ c ∈ l.take (k + 1), badB p q c := ⟨_, by rw [e3]; exact List.mem_append_right _ List.mem_cons_self, hbk⟩
    (refine oC (hB) ?_; conv => whnf)
    repeat' ((first|refine nI ?_|refine aI ?_|refine tI ?_|refine fI ?_|fail);conv => whnf)
    cases b with
    |true =>
     refine nI ?_
     rw [tN]
     conv => whnf
     refine Spec.call (lmE 11) (spM (l.take k) o) 400 rfl (auto_) (auto_) (addR (l.take k) o (l.getD k cfg0) hS (by omega) hwt) ?_
     rintro u M' ⟨o', b2, h3, h4, rfl, rfl⟩
     rw [e2] at h3
     refine ⟨lbE 11, spE 11 (adC (l.take k) (l.getD k cfg0)) o', .bool b2, rfl, (auto_), rfl, ?_⟩
     conv => whnf
     repeat' ((first|refine nI ?_|refine aI ?_|refine tI ?_|refine fI ?_|fail);conv => whnf)
     refine ⟨(k + 1, o', true), ?_, ⟨by dsimp only; omega, h3, ⟨fun _ => hup, fun _ => rfl⟩⟩, by dsimp only; omega⟩
     dsimp only
     rw [e2]
     exact Sub.by_ [(3, .old 3), (5, .old 5), (11, .old 11), (7002, .old 7004), (7003, .old 7005)] _ 400 rfl (auto_) (auto_)
    |false =>
     refine nI ?_
     rw [tN]
     conv => whnf
     refine Spec.call (lmE 11) (spM (l.take k) o) 400 rfl (auto_) (auto_) (addR (l.take k) o (l.getD k cfg0) hS (by omega) hwt) ?_
     rintro u M' ⟨o', b2, h3, h4, rfl, rfl⟩
     rw [e2] at h3
     refine ⟨lbE 11, spE 11 (adC (l.take k) (l.getD k cfg0)) o', .bool b2, rfl, (auto_), rfl, ?_⟩
     conv => whnf
     repeat' ((first|refine nI ?_|refine aI ?_|refine tI ?_|refine fI ?_|fail);conv => whnf)
     refine ⟨(k + 1, o', true), ?_, ⟨by dsimp only; omega, h3, ⟨fun _ => hup, fun _ => rfl⟩⟩, by dsimp only; omega⟩
     dsimp only
     rw [e2]
     exact Sub.by_ [(3, .old 3), (5, .old 5), (11, .old 11), (7002, .old 7004), (7003, .old 7005)] _ 400 rfl (auto_) (auto_)
   ·rw [decide_eq_false hbk] at hB
    have hup : (∃ c ∈ l.take (k + 1), badB p q c) ↔ ∃ c ∈ l.take k, badB p q c := by
     rw [e3]
     constructor
     ·rintro ⟨c, hc, h⟩
      rcases List.mem_append.1 hc with hc | hc
      ·exact ⟨c, hc, h⟩
      ·rw [List.mem_singleton] at hc
       subst hc
       exact absurd h hbk
     ·rintro ⟨c, hc, h⟩
      exact ⟨c, List.mem_append_left _ hc, h⟩
    (refine oC (hB) ?_; conv => whnf)
    repeat' ((first|refine nI ?_|refine aI ?_|refine tI ?_|refine fI ?_|fail);conv => whnf)
    cases b with
    |true =>
     refine nI ?_
     rw [tN]
     conv => whnf
     refine Spec.call (lmE 11) (spM (l.take k) o) 400 rfl (auto_) (auto_) (addR (l.take k) o (l.getD k cfg0) hS (by omega) hwt) ?_
     rintro u M' ⟨o', b2, h3, h4, rfl, rfl⟩
     rw [e2] at h3
     refine ⟨lbE 11, spE 11 (adC (l.take k) (l.getD k cfg0)) o', .bool b2, rfl, (auto_), rfl, ?_⟩
     conv => whnf
     repeat' ((first|refine nI ?_|refine aI ?_|refine tI ?_|refine fI ?_|fail);conv => whnf)
     refine ⟨(k + 1, o', true), ?_, ⟨by dsimp only; omega, h3, by rw [hup]; exact hbb⟩, by dsimp only; omega⟩
     dsimp only
     rw [e2]
     exact Sub.by_ [(3, .old 3), (5, .old 5), (11, .old 11), (7002, .old 7004), (7003, .old 7005)] _ 400 rfl (auto_) (auto_)
    |false =>
     refine nI ?_
     rw [tN]
     conv => whnf
     refine Spec.call (lmE 11) (spM (l.take k) o) 400 rfl (auto_) (auto_) (addR (l.take k) o (l.getD k cfg0) hS (by omega) hwt) ?_
     rintro u M' ⟨o', b2, h3, h4, rfl, rfl⟩
     rw [e2] at h3
     refine ⟨lbE 11, spE 11 (adC (l.take k) (l.getD k cfg0)) o', .bool b2, rfl, (auto_), rfl, ?_⟩
     conv => whnf
     repeat' ((first|refine nI ?_|refine aI ?_|refine tI ?_|refine fI ?_|fail);conv => whnf)
     refine ⟨(k + 1, o', false), ?_, ⟨by dsimp only; omega, h3, by rw [hup]; exact hbb⟩, by dsimp only; omega⟩
     dsimp only
     rw [e2]
     exact Sub.by_ [(3, .old 3), (5, .old 5), (11, .old 11), (7002, .old 7004), (7003, .old 7005)] _ 400 rfl (auto_) (auto_)
  obtain rfl : k = l.length := by omega
  rw [List.take_length] at hS hwt htk hbb ⊢
  have eb : b = false := by
   cases b with
   |true => exact (absurd (hbd.1 (hbb.1 rfl)) (by decide))
   |false => exact rfl
  subst eb
  conv => whnf
  refine dC (IsInitialR2 p q s r.start hp hq hw) (fun _ => ?_) (fun _ => ?_) <;> (conv => whnf)
  case refine_2 =>
   (refine oP (shapesTF) ?_; conv => whnf)
   exact ⟨rfl, rfl⟩
  rename_i hI
  have hr1 : rpT p s r = rp p s [r.start] r.start r.steps := by
   unfold rpT
   rw [if_neg (by have := S.siz.2; omega), if_pos hI.2.1]
  have b1 := ReplayF p s r hp hw (by omega)
  rw [hr1] at b1
  obtain ⟨m, e3, hm0, hm, hml⟩ : ∃ (m : List Cfg) (e3 : Int), rp p s [r.start] r.start r.steps = rpA m e3 ∧ (∀ i, i < m.length → Wn p q s i (m.getD i cfg0) ∧ ¬ badB p q (m.getD i cfg0)) ∧ m.length ≤ 101 := by
   by_cases hok : runOk p s r.start r.steps
   ·refine ⟨trs p r.start r.steps, 0, rp_ok hok, fun i hi => ?_, by rw [trs_len]; omega⟩
    rw [trs_len] at hi
    have h5 := trs_wn hI.2 hok (show i ≤ r.steps.length by omega)
    refine ⟨h5, fun hb => ?_⟩
    obtain ⟨t, ht, _⟩ := h5.vio S hk hb
    have := (hA.least hp hq he ht).1
    cases this
   ·obtain ⟨e3, _, h6⟩ := rp_no (acc := [r.start]) hok
    exact ⟨[], e3, h6, fun i hi => absurd hi (Nat.not_lt_zero _), by simp⟩
  rw [hm0] at b1
  (refine oP (b1) ?_; conv => whnf)
  refine WPc.loopF tt_ok mx_ok (fun i : Nat => i ≤ m.length) (fun i => [(18, .int .i64 (i : Int))]) (fun _ => (3, .box 39 (encRn r)) :: (5, .box 39 (encRn w)) :: spB 11 l o) (fun i => m.length - i) 0 (Nat.zero_le _) ?_; conv => whnf
  refine ⟨sI, ?_⟩
  rintro i hi
  conv => whnf
  refine cmpI ?_ ?_ <;> (intro g5; conv => whnf)
  ·have hil : i < m.length := by omega
   obtain ⟨hwn, hnb⟩ := hm i hil
   have hr := hwn.rdy S
   have hB := BadFR p q s (m.getD i cfg0) S hk hr
   refine dI ?_
   conv => whnf
   refine nI ?_
   rw [tN]
   conv => whnf
   (refine oC (CanonicalFR p s (m.getD i cfg0) hr) ?_; conv => whnf)
   repeat' ((first|refine nI ?_|refine aI ?_|refine tI ?_|refine fI ?_|fail);conv => whnf)
   refine dI ?_
   conv => whnf
   refine nI ?_
   rw [tN]
   conv => whnf
   by_cases hbk : badB p q (m.getD i cfg0)
   ·exact absurd hbk hnb
   ·rw [decide_eq_false hbk] at hB
    (refine oC (hB) ?_; conv => whnf)
    repeat' ((first|refine nI ?_|refine aI ?_|refine tI ?_|refine fI ?_|fail);conv => whnf)
    refine Spec.call (lmE 11) (spM l o) 400 rfl (auto_) (auto_) (findR l o (canC p (m.getD i cfg0)) hS (by omega) hwt) ?_
    rintro u M' ⟨⟨j, h3, h4, rfl⟩ | ⟨h3, rfl⟩, rfl⟩
    case inr => exact absurd ((hAll.mem _).2 ⟨i, _, hwn, rfl⟩) h3
    refine ⟨[(11, .old 7001), (7002, .old 7002), (7003, .old 7003)], spB 11 l o, .int .i64 (j : Int), rfl, (auto_), rfl, ?_⟩
    conv => whnf
    refine fI ?_
    conv => whnf
    repeat' ((first|refine nI ?_|refine aI ?_|refine tI ?_|refine fI ?_|fail);conv => whnf)
    exact ⟨i + 1, sI, by omega, by dsimp only; omega⟩
  refine cmpI ?_ ?_ <;> (intro g6; conv => whnf)
  ·(refine oP (shapesTF) ?_; conv => whnf)
   exact ⟨rfl, rfl⟩
  ·(refine oP (shapesTF) ?_; conv => whnf)
   exact ⟨rfl, rfl⟩
end Go.Proofs.YtboelimimjojoaaGreatDoor
