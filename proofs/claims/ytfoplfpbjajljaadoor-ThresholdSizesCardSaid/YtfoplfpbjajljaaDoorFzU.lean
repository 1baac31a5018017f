import Derived.Test.YtfoplfpbjajljaaDoorFzR
import Derived.Test.YtfoplfpbjajljaaDoorY1
import Derived.Test.YtfoplfpbjajljaaDoorRdJ
set_option linter.unusedVariables false
set_option linter.unusedSimpArgs false
namespace Go.Proofs.YtfoplfpbjajljaaDoor
set_option maxRecDepth 100000
set_option maxHeartbeats 16000000
theorem fixT_sat {t : LSys} {vals x : List Int} : ∀ {i : Nat}, (fixT t vals i).2 = 0 → (∀ j, j < i → x.getD j 0 = vals.getD j 0) → (satB (fixT t vals i).1 x ↔ satB t x)
 |0, _, _ => Iff.rfl
 |i + 1, h, hx => by
  by_cases h0 : (fixT t vals i).2 ≠ 0
  ·rw [fixT, if_pos h0] at h
   exact absurd h h0
  ·have h0 : (fixT t vals i).2 = 0 := Classical.not_not.1 h0
   have ih := fixT_sat h0 (fun j hj => hx j (by omega))
   rw [fixT_up h0] at h ⊢
   have he : subE (fixT t vals i).1 i (vals.getD i 0) = 0 := by rw [← subX_e]; exact h
   unfold subX
   rw [if_pos he]
   rw [← ih]
   refine sat_sub he ?_
   rw [tN]
   exact hx i (by omega)
def encSp (s : Siz) (x : List Int) : List AV := encZ s ++ [.sl 0 encI x]
theorem lawSizes (p : Pro) (q : Prp) (hp : okP p) (hq : okQ q) (sch : List Int) (hl : sch.length ≤ 140737488355328) (number : Int) (s : Siz) (x : List Int) (hx : x.length ≤ 140737488355328) :
  PSpec Tryd.prog 4 [.agg (encPQ p q), .agg (encPt sch number), .agg (encSp s x)] (fun u => u = .bool true) := by
 have hB := BuildF p q hp hq sch hl number
 have hF := FixF p q hp hq sch hl number s
 have hs := saneF
 have hX : (∃ e : Int, e ≠ 0 ∧ bldA p q sch number = .tup [.agg [.int .i64 0, .nilsl], .int .i64 e] ∧ ∃ e2 : Int, fixA p q sch number s = .tup [.agg [.int .i64 0, .nilsl], .int .i64 e2]) ∨
   (∃ t : LSys, sysE t = 0 ∧ bldA p q sch number = .tup [.agg [.int .i64 t.vars, .sl row0 encRw t.rows], .int .i64 0] ∧ ((∃ e2 : Int, e2 ≠ 0 ∧ fixA p q sch number s = .tup [.agg [.int .i64 0, .nilsl], .int .i64 e2]) ∨
    ∃ t2 : LSys, sysE t2 = 0 ∧ fixA p q sch number s = .tup [.agg [.int .i64 t2.vars, .sl row0 encRw t2.rows], .int .i64 0] ∧ ∀ y : List Int, (satB t2 ([s.n, s.t, s.f] ++ y) ↔ satB t ([s.n, s.t, s.f] ++ y)))) := by
  unfold fixA bldA
  by_cases h : chkE p q ≠ 0
  ·rw [if_pos h]
   have h1 : lszE p q s ≠ 0 := fun hh => h (lsz_chk hh)
   rw [if_pos h1]
   exact .inl ⟨_, h, rfl, _, rfl⟩
  rw [if_neg h]
  have hk : chkE p q = 0 := Classical.not_not.1 h
  by_cases h2 : ¬ schB (thrL p.rules).length sch ∨ number < -1 ∨ (csN p q : Int) ≤ number
  ·rw [if_pos h2, if_pos h2]
   refine .inl ⟨_, (by decide), rfl, ?_⟩
   by_cases h1 : lszE p q s ≠ 0
   ·rw [if_pos h1]
    exact ⟨_, rfl⟩
   ·rw [if_neg h1]
    exact ⟨_, rfl⟩
  rw [if_neg h2, if_neg h2]
  have hok := sysB_ok (chk_prop hk) (Classical.not_not.1 fun hh => h2 (.inl hh)) number
  refine .inr ⟨sysB p q sch number, hok, rfl, ?_⟩
  by_cases h1 : lszE p q s ≠ 0
  ·rw [if_pos h1]
   exact .inl ⟨_, h1, rfl⟩
  rw [if_neg h1]
  by_cases h3 : (fixT (sysB p q sch number) (szV s) 3).2 ≠ 0
  ·rw [if_pos h3]
   exact .inl ⟨_, h3, rfl⟩
  rw [if_neg h3]
  have h3 := Classical.not_not.1 h3
  refine .inr ⟨_, fixT_ok (vals := szV s) hok h3, rfl, fun y => fixT_sat h3 fun j hj => ?_⟩
  obtain rfl | rfl | rfl : j = 0 ∨ j = 1 ∨ j = 2 := by omega
  ·rfl
  ·rfl
  ·rfl
 rcases hX with ⟨e, he, hX1, e2, hX2⟩ | ⟨t, ht, hX1, ⟨e2, he2, hX2⟩ | ⟨t2, ht2, hX2, hsat⟩⟩
 all_goals
  rw [hX1] at hB
  rw [hX2] at hF
  clear hX1 hX2
  refine PSpec.intro tt_ok mx_ok Tryd.func4 rfl (by decide) ?_; (conv => whnf)
  refine boxP rfl ?_
  conv => whnf
  refine boxP rfl ?_
  conv => whnf
  refine boxP rfl ?_
  conv => whnf
  apply once6
  case k =>
   intro o1 o2 o3 o4 o5 o6
   refine drawC [0, 1, 2, 3] (by decide +kernel) ?_
   conv => whnf
   repeat' first
    |exact True.intro
    |(refine And.intro ?_ ?_ <;> conv => whnf)
    |with_reducible exact o1
    |with_reducible exact o2
    |with_reducible exact o3
    |with_reducible exact o4
    |with_reducible exact o5
    |with_reducible exact o6
    |fail
  all_goals try first
   |exact True.intro
   |exact True
 all_goals
  apply once6
  case k =>
   intro o1 o2 o3 o4 o5 o6
   refine drawC [0, 1, 2, 3, 4, 5, 6, 7] (by decide +kernel) ?_
   conv => whnf
   repeat' first
    |exact True.intro
    |(refine And.intro ?_ ?_ <;> conv => whnf)
    |with_reducible exact o1
    |with_reducible exact o2
    |with_reducible exact o3
    |with_reducible exact o4
    |with_reducible exact o5
    |with_reducible exact o6
    |fail
  all_goals try first
   |exact True.intro
   |exact True
 all_goals
  (refine oP (hB) ?_; conv => whnf)
  (refine oP (hF) ?_; conv => whnf)
 iterate 2
  ·refine cmpT he ?_
   conv => whnf
   (refine oP (hs) ?_; conv => whnf)
   exact ⟨rfl, rfl⟩
 iterate 2
  ·repeat' ((first|refine nI ?_|refine aI ?_|refine tI ?_|refine fI ?_|fail);conv => whnf)
   (refine oP (hs) ?_; conv => whnf)
   exact ⟨rfl, rfl⟩
 all_goals
  obtain ⟨a1, a2, a3, a4⟩ := sysE_ok ht
  refine fI ?_
  conv => whnf
  refine fI ?_
  conv => whnf
  refine cmpI ?_ ?_ <;> (intro h1; conv => whnf)
  ·(refine oP (hs) ?_; conv => whnf)
   exact ⟨rfl, rfl⟩
  refine cmpI ?_ ?_ <;> (intro h2; conv => whnf)
  ·(refine oP (hs) ?_; conv => whnf)
   exact ⟨rfl, rfl⟩
  first | refine dI ?_ | refine drawG (by decide +kernel) ?_ | refine drawO (by decide +kernel) ?_ | refine dR ?_ | refine dP ?_
  conv => whnf
  refine leakN ?_
  conv => whnf
  refine nI ?_
  conv => whnf
  refine appI (x.drop 3) rfl (by first | (simp only [List.length_cons, List.length_nil, List.length_drop]; omega) | omega) ?_
  conv => whnf
  have hxl : ([s.n, s.t, s.f] ++ x.drop 3).length ≤ 140737488355328 := by simp only [List.length_append, List.length_cons, List.length_nil, List.length_drop]; omega
  have hSA := SatisfiesF t ([s.n, s.t, s.f] ++ x.drop 3) (okS_valid ht) hxl
  have hSB := SatisfiesF t2 ([s.n, s.t, s.f] ++ x.drop 3) (okS_valid ht2) hxl
  rw [show decide (satB t2 ([s.n, s.t, s.f] ++ x.drop 3)) = decide (satB t ([s.n, s.t, s.f] ++ x.drop 3)) from decide_eq_decide.2 (hsat _)] at hSB
  generalize decide (satB t ([s.n, s.t, s.f] ++ x.drop 3)) = c at hSA hSB
  clear hsat
  cases c
  all_goals
   refine drawE ?_
   conv => whnf
   repeat' first
    |exact True.intro
    |exact ⟨rfl, rfl⟩
    |(refine And.intro ?_ ?_ <;> conv => whnf)
    |((refine Spec.borrow (n := 5) (hSA) rfl (by rintro _ rfl; rfl) ?_; rintro _ rfl; conv => whnf))
    |((refine Spec.borrow (n := 5) (hSB) rfl (by rintro _ rfl; rfl) ?_; rintro _ rfl; conv => whnf))
    |(refine oP hs ?_; conv => whnf)
    |fail
end Go.Proofs.YtfoplfpbjajljaaDoor
