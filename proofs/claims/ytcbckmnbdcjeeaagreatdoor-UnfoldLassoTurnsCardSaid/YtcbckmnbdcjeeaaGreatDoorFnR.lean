
/-
  The errors of guards, responses, values; the different guards of a family.
-/
import Derived.Test.YtcbckmnbdcjeeaaGreatDoorFnQ
set_option linter.unusedVariables false
set_option linter.unusedSimpArgs false
namespace Go.Proofs.YtcbckmnbdcjeeaaGreatDoor
set_option maxRecDepth 100000
set_option maxHeartbeats 4000000

theorem drop_cons' {α : Type} {l : List α} {i : Nat} (d : α) (h : i < l.length) : l.drop i = l.getD i d :: l.drop (i + 1) := by
  rw [List.drop_eq_getElem_cons h]
  simp [List.getD, h]
theorem orL_map_drop {α : Type} {l : List α} (f : α → Int) {k : Nat} (d : α) (h : k < l.length) : orL ((l.drop k).map f) = if f (l.getD k d) ≠ 0 then f (l.getD k d) else orL ((l.drop (k + 1)).map f) := by
  rw [drop_cons' d h]; rfl

def coefE (c : Int) : Int := if c < 1 ∨ 100 < c then 1 else 0
def bndE (l : Lin) : Int := if bndB l then 0 else 4
def gE (m : Int) (g : Thr) : Int := orL [indE g.message m, coefE g.coef, bndE g.bound]
def guardsE (m : Int) (l : List Thr) : Int := if orL (l.map (gE m)) ≠ 0 then orL (l.map (gE m)) else if 2 < l.length then 4 else 0
theorem guardsF (p : Pro) (l : List Thr) (hl : l.length ≤ 1000) : PSpec Tryz.prog 107 [.agg (encP p), .sl thr0 encThr l] (fun u => u = .int .i64 (guardsE p.messages.length l)) := by
  refine PSpec.intro tt_ok mx_ok Tryz.func107 rfl (by decide) ?_; (conv => whnf)
  refine boxP rfl ?_
  conv => whnf
  refine WPc.loopF tt_ok mx_ok (fun k : Nat => k ≤ l.length ∧ orL (l.map (gE p.messages.length)) = orL ((l.drop k).map (gE p.messages.length))) (fun k => [(10, .int .i64 (k : Int))]) (fun _ => []) (fun k => l.length - k) 0 ⟨by omega, rfl⟩ ?_; conv => whnf
  refine ⟨(Sub.id_ 400 rfl auto_ auto_), ?_⟩
  rintro k ⟨hk, he⟩
  conv => whnf
  refine cmpI (fun h1 => ?_) (fun h1 => ?_) <;> conv => whnf
  · rw [orL_map_drop _ thr0 (by omega)] at he
    refine needI (by omega) ?_
    rw [Int.toNat_natCast]
    generalize l.getD k thr0 = g at he
    conv => whnf
    refine drawI (by decide +kernel) ?_
    conv => whnf
    (refine callPI 5 (indexF g.message p.messages.length) rfl ⟨_, rfl⟩ ?_; rintro _ rfl; conv => whnf)
    have fin : ∀ c : Int, c = coefE g.coef → ∀ b : Int, b = bndE g.bound → orL [indE g.message p.messages.length, c, b] = gE p.messages.length g := by rintro c rfl b rfl; rfl
    by_cases hc : g.coef < 1 ∨ 100 < g.coef
    · have ec : (1 : Int) = coefE g.coef := by rw [coefE, if_pos hc]
      repeat' (first
          | (refine needI (by first | omega | (dsimp only; omega)) ?_; conv => whnf)
          | (refine arI trivial (by omega) ?_; conv => whnf)
          | (refine arU trivial (by omega) ?_; conv => whnf)
          | (refine arB trivial (by omega) ?_; conv => whnf)
          | (refine drawI (by decide +kernel) ?_; conv => whnf)
          | (refine drawR (by decide +kernel) ?_; conv => whnf)
          | (refine drawP (by decide +kernel) ?_; conv => whnf)
          | (refine boxP rfl ?_; conv => whnf)
          | (refine appI _ rfl (by first | omega | (dsimp only; omega) | (simp only [List.length_cons, List.length_nil, List.length_append]; omega)) ?_; conv => whnf)
          | (refine rowSetI _ rfl ?_; conv => whnf)
          | (refine cmpT (by omega) ?_; conv => whnf)
          | (refine cmpF (by omega) ?_; conv => whnf)
          | (refine cmpI (fun _ => ?_) (fun _ => ?_) <;> conv => whnf))
      all_goals
        (refine callPI 5 (whenT 1) rfl ⟨_, rfl⟩ ?_; rintro _ rfl; conv => whnf)
        refine callD 5 (boundedF g.bound) rfl (fun _ => ?_) (fun _ => ?_) <;> (conv => whnf)
        · rename_i hb
          have eb : (0 : Int) = bndE g.bound := by rw [bndE, if_pos hb]
          (refine callPI 5 (whenF 4) rfl ⟨_, rfl⟩ ?_; rintro _ rfl; conv => whnf)
          refine leakY ?_
          conv => whnf
          (refine callPI 5 (firstF _ (by simp)) rfl ⟨_, rfl⟩ ?_; rintro _ rfl; conv => whnf)
          rw [fin _ ec _ eb]
          refine cmpI (fun h2 => ?_) (fun h2 => ?_) <;> conv => whnf
          · rw [if_pos h2] at he
            exact ⟨av_int (by rw [guardsE, he, if_pos h2]), rfl⟩
          · rw [if_neg h2] at he
            repeat' (first
                | (refine needI (by first | omega | (dsimp only; omega)) ?_; conv => whnf)
                | (refine arI trivial (by omega) ?_; conv => whnf)
                | (refine arU trivial (by omega) ?_; conv => whnf)
                | (refine arB trivial (by omega) ?_; conv => whnf)
                | (refine drawI (by decide +kernel) ?_; conv => whnf)
                | (refine drawR (by decide +kernel) ?_; conv => whnf)
                | (refine drawP (by decide +kernel) ?_; conv => whnf)
                | (refine boxP rfl ?_; conv => whnf)
                | (refine appI _ rfl (by first | omega | (dsimp only; omega) | (simp only [List.length_cons, List.length_nil, List.length_append]; omega)) ?_; conv => whnf)
                | (refine rowSetI _ rfl ?_; conv => whnf)
                | (refine cmpT (by omega) ?_; conv => whnf)
                | (refine cmpF (by omega) ?_; conv => whnf)
                | (refine cmpI (fun _ => ?_) (fun _ => ?_) <;> conv => whnf))
            exact ⟨k + 1, (Sub.id_ 400 rfl auto_ auto_), ⟨by omega, he⟩, by dsimp only; omega⟩
        · rename_i hb
          have eb : (4 : Int) = bndE g.bound := by rw [bndE, if_neg hb]
          (refine callPI 5 (whenT 4) rfl ⟨_, rfl⟩ ?_; rintro _ rfl; conv => whnf)
          refine leakY ?_
          conv => whnf
          (refine callPI 5 (firstF _ (by simp)) rfl ⟨_, rfl⟩ ?_; rintro _ rfl; conv => whnf)
          rw [fin _ ec _ eb]
          refine cmpI (fun h2 => ?_) (fun h2 => ?_) <;> conv => whnf
          · rw [if_pos h2] at he
            exact ⟨av_int (by rw [guardsE, he, if_pos h2]), rfl⟩
          · rw [if_neg h2] at he
            repeat' (first
                | (refine needI (by first | omega | (dsimp only; omega)) ?_; conv => whnf)
                | (refine arI trivial (by omega) ?_; conv => whnf)
                | (refine arU trivial (by omega) ?_; conv => whnf)
                | (refine arB trivial (by omega) ?_; conv => whnf)
                | (refine drawI (by decide +kernel) ?_; conv => whnf)
                | (refine drawR (by decide +kernel) ?_; conv => whnf)
                | (refine drawP (by decide +kernel) ?_; conv => whnf)
                | (refine boxP rfl ?_; conv => whnf)
                | (refine appI _ rfl (by first | omega | (dsimp only; omega) | (simp only [List.length_cons, List.length_nil, List.length_append]; omega)) ?_; conv => whnf)
                | (refine rowSetI _ rfl ?_; conv => whnf)
                | (refine cmpT (by omega) ?_; conv => whnf)
                | (refine cmpF (by omega) ?_; conv => whnf)
                | (refine cmpI (fun _ => ?_) (fun _ => ?_) <;> conv => whnf))
            exact ⟨k + 1, (Sub.id_ 400 rfl auto_ auto_), ⟨by omega, he⟩, by dsimp only; omega⟩
    · have ec : (0 : Int) = coefE g.coef := by rw [coefE, if_neg hc]
      repeat' (first
          | (refine needI (by first | omega | (dsimp only; omega)) ?_; conv => whnf)
          | (refine arI trivial (by omega) ?_; conv => whnf)
          | (refine arU trivial (by omega) ?_; conv => whnf)
          | (refine arB trivial (by omega) ?_; conv => whnf)
          | (refine drawI (by decide +kernel) ?_; conv => whnf)
          | (refine drawR (by decide +kernel) ?_; conv => whnf)
          | (refine drawP (by decide +kernel) ?_; conv => whnf)
          | (refine boxP rfl ?_; conv => whnf)
          | (refine appI _ rfl (by first | omega | (dsimp only; omega) | (simp only [List.length_cons, List.length_nil, List.length_append]; omega)) ?_; conv => whnf)
          | (refine rowSetI _ rfl ?_; conv => whnf)
          | (refine cmpT (by omega) ?_; conv => whnf)
          | (refine cmpF (by omega) ?_; conv => whnf)
          | (refine cmpI (fun _ => ?_) (fun _ => ?_) <;> conv => whnf))
      (refine callPI 5 (whenF 1) rfl ⟨_, rfl⟩ ?_; rintro _ rfl; conv => whnf)
      refine callD 5 (boundedF g.bound) rfl (fun _ => ?_) (fun _ => ?_) <;> (conv => whnf)
      · rename_i hb
        have eb : (0 : Int) = bndE g.bound := by rw [bndE, if_pos hb]
        (refine callPI 5 (whenF 4) rfl ⟨_, rfl⟩ ?_; rintro _ rfl; conv => whnf)
        refine leakY ?_
        conv => whnf
        (refine callPI 5 (firstF _ (by simp)) rfl ⟨_, rfl⟩ ?_; rintro _ rfl; conv => whnf)
        rw [fin _ ec _ eb]
        refine cmpI (fun h2 => ?_) (fun h2 => ?_) <;> conv => whnf
        · rw [if_pos h2] at he
          exact ⟨av_int (by rw [guardsE, he, if_pos h2]), rfl⟩
        · rw [if_neg h2] at he
          repeat' (first
              | (refine needI (by first | omega | (dsimp only; omega)) ?_; conv => whnf)
              | (refine arI trivial (by omega) ?_; conv => whnf)
              | (refine arU trivial (by omega) ?_; conv => whnf)
              | (refine arB trivial (by omega) ?_; conv => whnf)
              | (refine drawI (by decide +kernel) ?_; conv => whnf)
              | (refine drawR (by decide +kernel) ?_; conv => whnf)
              | (refine drawP (by decide +kernel) ?_; conv => whnf)
              | (refine boxP rfl ?_; conv => whnf)
              | (refine appI _ rfl (by first | omega | (dsimp only; omega) | (simp only [List.length_cons, List.length_nil, List.length_append]; omega)) ?_; conv => whnf)
              | (refine rowSetI _ rfl ?_; conv => whnf)
              | (refine cmpT (by omega) ?_; conv => whnf)
              | (refine cmpF (by omega) ?_; conv => whnf)
              | (refine cmpI (fun _ => ?_) (fun _ => ?_) <;> conv => whnf))
          exact ⟨k + 1, (Sub.id_ 400 rfl auto_ auto_), ⟨by omega, he⟩, by dsimp only; omega⟩
      · rename_i hb
        have eb : (4 : Int) = bndE g.bound := by rw [bndE, if_neg hb]
        (refine callPI 5 (whenT 4) rfl ⟨_, rfl⟩ ?_; rintro _ rfl; conv => whnf)
        refine leakY ?_
        conv => whnf
        (refine callPI 5 (firstF _ (by simp)) rfl ⟨_, rfl⟩ ?_; rintro _ rfl; conv => whnf)
        rw [fin _ ec _ eb]
        refine cmpI (fun h2 => ?_) (fun h2 => ?_) <;> conv => whnf
        · rw [if_pos h2] at he
          exact ⟨av_int (by rw [guardsE, he, if_pos h2]), rfl⟩
        · rw [if_neg h2] at he
          repeat' (first
              | (refine needI (by first | omega | (dsimp only; omega)) ?_; conv => whnf)
              | (refine arI trivial (by omega) ?_; conv => whnf)
              | (refine arU trivial (by omega) ?_; conv => whnf)
              | (refine arB trivial (by omega) ?_; conv => whnf)
              | (refine drawI (by decide +kernel) ?_; conv => whnf)
              | (refine drawR (by decide +kernel) ?_; conv => whnf)
              | (refine drawP (by decide +kernel) ?_; conv => whnf)
              | (refine boxP rfl ?_; conv => whnf)
              | (refine appI _ rfl (by first | omega | (dsimp only; omega) | (simp only [List.length_cons, List.length_nil, List.length_append]; omega)) ?_; conv => whnf)
              | (refine rowSetI _ rfl ?_; conv => whnf)
              | (refine cmpT (by omega) ?_; conv => whnf)
              | (refine cmpF (by omega) ?_; conv => whnf)
              | (refine cmpI (fun _ => ?_) (fun _ => ?_) <;> conv => whnf))
          exact ⟨k + 1, (Sub.id_ 400 rfl auto_ auto_), ⟨by omega, he⟩, by dsimp only; omega⟩
  · obtain rfl : k = l.length := by omega
    rw [List.drop_length] at he
    have h0 : orL (l.map (gE p.messages.length)) = 0 := he
    refine cmpI (fun h2 => ?_) (fun h2 => ?_) <;> conv => whnf
    · (refine Spec.of_pure (n := 5) (whenT 4) rfl ?_; rintro _ rfl; conv => whnf)
      exact ⟨av_int (by rw [guardsE, h0, if_neg (by simp), if_pos (by omega)]), rfl⟩
    · (refine Spec.of_pure (n := 5) (whenF 4) rfl ?_; rintro _ rfl; conv => whnf)
      exact ⟨av_int (by rw [guardsE, h0, if_neg (by simp), if_neg (by omega)]), rfl⟩
def respE (l : List Int) (n : Int) : Int := if (l.length : Int) ≠ n then 1 else if inR l n then 0 else 5
theorem responsesF (l : List Int) (n : Int) (hl : l.length ≤ 1000) : PSpec Tryz.prog 109 [.sl 0 encI l, .int .i64 n] (fun u => u = .int .i64 (respE l n)) := by
  refine PSpec.intro tt_ok mx_ok Tryz.func109 rfl (by decide) ?_; (conv => whnf)
  refine cmpI (fun h0 => ?_) (fun h0 => ?_) <;> conv => whnf
  · exact ⟨av_int (by rw [respE, if_pos h0]), rfl⟩
  refine WPc.loopF tt_ok mx_ok (fun k : Nat => k ≤ l.length ∧ ∀ j, j < k → 0 ≤ l.getD j 0 ∧ l.getD j 0 < n) (fun k => [(14, .int .i64 (k : Int))]) (fun _ => []) (fun k => l.length - k) 0 ⟨by omega, fun j hj => by omega⟩ ?_; conv => whnf
  refine ⟨(Sub.id_ 400 rfl auto_ auto_), ?_⟩
  rintro k ⟨hk, ha⟩
  conv => whnf
  refine cmpI (fun h1 => ?_) (fun h1 => ?_) <;> conv => whnf
  · refine needI (by omega) ?_
    rw [Int.toNat_natCast]
    conv => whnf
    (refine Spec.of_pure (n := 5) (indexF _ _) rfl ?_; rintro _ rfl; conv => whnf)
    by_cases hb : l.getD k 0 < 0 ∨ n ≤ l.getD k 0
    · rw [indE, if_pos hb]
      repeat' (first
          | (refine needI (by first | omega | (dsimp only; omega)) ?_; conv => whnf)
          | (refine arI trivial (by omega) ?_; conv => whnf)
          | (refine arU trivial (by omega) ?_; conv => whnf)
          | (refine arB trivial (by omega) ?_; conv => whnf)
          | (refine drawI (by decide +kernel) ?_; conv => whnf)
          | (refine drawR (by decide +kernel) ?_; conv => whnf)
          | (refine drawP (by decide +kernel) ?_; conv => whnf)
          | (refine boxP rfl ?_; conv => whnf)
          | (refine appI _ rfl (by first | omega | (dsimp only; omega) | (simp only [List.length_cons, List.length_nil, List.length_append]; omega)) ?_; conv => whnf)
          | (refine rowSetI _ rfl ?_; conv => whnf)
          | (refine cmpT (by omega) ?_; conv => whnf)
          | (refine cmpF (by omega) ?_; conv => whnf)
          | (refine cmpI (fun _ => ?_) (fun _ => ?_) <;> conv => whnf))
      refine ⟨av_int ?_, rfl⟩
      rw [respE, if_neg h0, if_neg]
      intro h
      have := h k (by omega)
      omega
    · rw [indE, if_neg hb]
      repeat' (first
          | (refine needI (by first | omega | (dsimp only; omega)) ?_; conv => whnf)
          | (refine arI trivial (by omega) ?_; conv => whnf)
          | (refine arU trivial (by omega) ?_; conv => whnf)
          | (refine arB trivial (by omega) ?_; conv => whnf)
          | (refine drawI (by decide +kernel) ?_; conv => whnf)
          | (refine drawR (by decide +kernel) ?_; conv => whnf)
          | (refine drawP (by decide +kernel) ?_; conv => whnf)
          | (refine boxP rfl ?_; conv => whnf)
          | (refine appI _ rfl (by first | omega | (dsimp only; omega) | (simp only [List.length_cons, List.length_nil, List.length_append]; omega)) ?_; conv => whnf)
          | (refine rowSetI _ rfl ?_; conv => whnf)
          | (refine cmpT (by omega) ?_; conv => whnf)
          | (refine cmpF (by omega) ?_; conv => whnf)
          | (refine cmpI (fun _ => ?_) (fun _ => ?_) <;> conv => whnf))
      refine ⟨k + 1, (Sub.id_ 400 rfl auto_ auto_), ⟨by omega, fun j hj => ?_⟩, by dsimp only; omega⟩
      by_cases e : j = k
      · subst e; omega
      · exact ha j (by omega)
  · exact ⟨av_int (by rw [respE, if_neg h0, if_pos (show inR l n from fun j hj => ha j (by omega))]), rfl⟩
def valE (m v : Int) : Int := if v < -1 ∨ m ≤ v then 5 else 0
theorem valueF (p : Pro) (v : Int) : PSpec Tryz.prog 108 [.agg (encP p), .int .i64 v] (fun u => u = .int .i64 (valE p.values.length v)) := by
  refine PSpec.intro tt_ok mx_ok Tryz.func108 rfl (by decide) ?_; (conv => whnf)
  refine boxP rfl ?_
  conv => whnf
  by_cases h : v < -1 ∨ (p.values.length : Int) ≤ v
  · rw [valE, if_pos h]
    repeat' (first
        | (refine needI (by first | omega | (dsimp only; omega)) ?_; conv => whnf)
        | (refine arI trivial (by omega) ?_; conv => whnf)
        | (refine arU trivial (by omega) ?_; conv => whnf)
        | (refine arB trivial (by omega) ?_; conv => whnf)
        | (refine drawI (by decide +kernel) ?_; conv => whnf)
        | (refine drawR (by decide +kernel) ?_; conv => whnf)
        | (refine drawP (by decide +kernel) ?_; conv => whnf)
        | (refine boxP rfl ?_; conv => whnf)
        | (refine appI _ rfl (by first | omega | (dsimp only; omega) | (simp only [List.length_cons, List.length_nil, List.length_append]; omega)) ?_; conv => whnf)
        | (refine rowSetI _ rfl ?_; conv => whnf)
        | (refine cmpT (by omega) ?_; conv => whnf)
        | (refine cmpF (by omega) ?_; conv => whnf)
        | (refine cmpI (fun _ => ?_) (fun _ => ?_) <;> conv => whnf))
    all_goals
      (refine Spec.of_pure (n := 5) (whenT 5) rfl ?_; rintro _ rfl; conv => whnf)
      exact ⟨rfl, rfl⟩
  · rw [valE, if_neg h]
    repeat' (first
        | (refine needI (by first | omega | (dsimp only; omega)) ?_; conv => whnf)
        | (refine arI trivial (by omega) ?_; conv => whnf)
        | (refine arU trivial (by omega) ?_; conv => whnf)
        | (refine arB trivial (by omega) ?_; conv => whnf)
        | (refine drawI (by decide +kernel) ?_; conv => whnf)
        | (refine drawR (by decide +kernel) ?_; conv => whnf)
        | (refine drawP (by decide +kernel) ?_; conv => whnf)
        | (refine boxP rfl ?_; conv => whnf)
        | (refine appI _ rfl (by first | omega | (dsimp only; omega) | (simp only [List.length_cons, List.length_nil, List.length_append]; omega)) ?_; conv => whnf)
        | (refine rowSetI _ rfl ?_; conv => whnf)
        | (refine cmpT (by omega) ?_; conv => whnf)
        | (refine cmpF (by omega) ?_; conv => whnf)
        | (refine cmpI (fun _ => ?_) (fun _ => ?_) <;> conv => whnf))
    (refine Spec.of_pure (n := 5) (whenF 5) rfl ?_; rintro _ rfl; conv => whnf)
    exact ⟨rfl, rfl⟩

/-! ### the different guards -/
def thrN (g : Thr) : List Int := [g.message, g.coef, g.bound.c, g.bound.n, g.bound.t, g.bound.f]
theorem thrN_inj {a b : Thr} : thrN a = thrN b ↔ a = b := by
  constructor
  · intro h
    obtain ⟨m, c, ⟨x, y, z, w⟩⟩ := a
    obtain ⟨m', c', ⟨x', y', z', w'⟩⟩ := b
    simp only [thrN, List.cons.injEq, and_true] at h
    obtain ⟨rfl, rfl, rfl, rfl, rfl, rfl⟩ := h
    rfl
  · rintro rfl; rfl
theorem mem_getD {α : Type} {l : List α} {k : Nat} (d : α) (h : k < l.length) : l.getD k d ∈ l := by
  rw [List.getD_eq_getElem?_getD, List.getElem?_eq_getElem h]
  exact List.getElem_mem _
theorem take_succ_getD {α : Type} {l : List α} {k : Nat} (d : α) (h : k < l.length) : l.take (k + 1) = l.take k ++ [l.getD k d] := by
  rw [List.take_succ_eq_append_getElem h, List.getD_eq_getElem?_getD, List.getElem?_eq_getElem h]
  rfl
theorem thrIndexF (l : List Thr) (g : Thr) (hl : l.length ≤ 10000) : PSpec Tryz.prog 146 [.sl thr0 encThr l, .agg (encThr g)] (fun u => ∃ n : Int, u = .int .i64 n ∧ (0 ≤ n ↔ g ∈ l)) := by
  refine PSpec.intro tt_ok mx_ok Tryz.func146 rfl (by decide) ?_; (conv => whnf)
  refine boxP rfl ?_
  conv => whnf
  refine WPc.loopF tt_ok mx_ok (fun k : Nat => k ≤ l.length ∧ g ∉ l.take k) (fun k => [(8, .int .i64 (k : Int))]) (fun _ => []) (fun k => l.length - k) 0 ⟨by omega, by simp⟩ ?_; conv => whnf
  refine ⟨(Sub.id_ 400 rfl auto_ auto_), ?_⟩
  rintro k ⟨hk, ha⟩
  conv => whnf
  repeat' (first
      | (refine needI (by first | omega | (dsimp only; omega)) ?_; conv => whnf)
      | (refine arI trivial (by omega) ?_; conv => whnf)
      | (refine arU trivial (by omega) ?_; conv => whnf)
      | (refine arB trivial (by omega) ?_; conv => whnf)
      | (refine drawI (by decide +kernel) ?_; conv => whnf)
      | (refine drawR (by decide +kernel) ?_; conv => whnf)
      | (refine drawP (by decide +kernel) ?_; conv => whnf)
      | (refine boxP rfl ?_; conv => whnf)
      | (refine appI _ rfl (by first | omega | (dsimp only; omega) | (simp only [List.length_cons, List.length_nil, List.length_append]; omega)) ?_; conv => whnf)
      | (refine rowSetI _ rfl ?_; conv => whnf)
      | (refine cmpT (by omega) ?_; conv => whnf)
      | (refine cmpF (by omega) ?_; conv => whnf)
      | (refine cmpI (fun _ => ?_) (fun _ => ?_) <;> conv => whnf))
  · rename_i h1 h2
    rw [Int.toNat_natCast] at h2
    have h2 : g = l.getD k thr0 := thrN_inj.1 h2
    refine ⟨⟨k, rfl, fun _ => ?_, fun _ => by omega⟩, rfl⟩
    rw [h2]; exact mem_getD _ (by omega)
  · rename_i h1 h2
    rw [Int.toNat_natCast] at h2
    refine ⟨k + 1, (Sub.id_ 400 rfl auto_ auto_), ⟨by omega, ?_⟩, by dsimp only; omega⟩
    rw [take_succ_getD thr0 (by omega), List.mem_append, List.mem_singleton, not_or]
    exact ⟨ha, fun e => h2 (thrN_inj.2 e)⟩
  · obtain rfl : k = l.length := by omega
    rw [List.take_length] at ha
    exact ⟨⟨-1, rfl, fun h => by omega, fun h => absurd h ha⟩, rfl⟩
theorem thrContainsF (l : List Thr) (g : Thr) (hl : l.length ≤ 10000) : PSpec Tryz.prog 110 [.sl thr0 encThr l, .agg (encThr g)] (fun u => u = .bool (decide (g ∈ l))) := by
  refine PSpec.intro tt_ok mx_ok Tryz.func110 rfl (by decide) ?_; (conv => whnf)
  refine boxP rfl ?_
  conv => whnf
  refine Spec.of_pure (n := 5) (thrIndexF l g hl) rfl ?_
  rintro _ ⟨n, rfl, hn⟩
  conv => whnf
  refine cmpI (fun h => ?_) (fun h => ?_) <;> conv => whnf
  · exact ⟨dec_t (hn.1 h), rfl⟩
  · exact ⟨dec_f (fun hh => h (hn.2 hh)), rfl⟩
def addT (acc : List Thr) (g : Thr) : List Thr := if g ∈ acc then acc else acc ++ [g]
def thrL (rs : List Rul) : List Thr := (rs.flatMap (·.guards)).foldl addT []
def rowT (l : List Thr) : Blk := .row 140 thr0 encThr l
theorem foldl_addT_len (gs : List Thr) : ∀ acc, (gs.foldl addT acc).length ≤ acc.length + gs.length := by
  induction gs with
  | nil => intro acc; simp
  | cons g gs ih =>
    intro acc
    have := ih (addT acc g)
    have h2 : (addT acc g).length ≤ acc.length + 1 := by unfold addT; split <;> simp
    simp only [List.foldl_cons, List.length_cons]
    omega
theorem flat_len {rs : List Rul} (h : ∀ r ∈ rs, r.guards.length ≤ 60) : (rs.flatMap (·.guards)).length ≤ 60 * rs.length := by
  induction rs with
  | nil => simp
  | cons r rs ih =>
    have h1 := h r List.mem_cons_self
    have h2 := ih fun x hx => h x (List.mem_cons_of_mem _ hx)
    simp only [List.flatMap_cons, List.length_append, List.length_cons]
    omega
theorem rowT_eq {l l' : List Thr} (h : l = l') : Blk.row 140 thr0 encThr l = Blk.row 140 thr0 encThr l' := by rw [h]
theorem guards_len {p : Pro} (h : ¬ bigP p) : ∀ r ∈ p.rules, r.guards.length ≤ 60 := by
  intro r hr
  obtain ⟨j, hj, rfl⟩ := List.getElem_of_mem hr
  have := bigR_le (bigP_rule h hj)
  rw [List.getD_eq_getElem?_getD, List.getElem?_eq_getElem hj] at this
  exact this.2.2.1
def outT (rs : List Rul) (i : Nat) (r : Rul) (j : Nat) : List Thr := (((rs.take i).flatMap (·.guards)) ++ r.guards.take j).foldl addT []
theorem outT_zero (rs : List Rul) (i : Nat) (r : Rul) : outT rs i r 0 = thrL (rs.take i) := by simp [outT, thrL]
theorem outT_succ (rs : List Rul) (i : Nat) (r : Rul) {j : Nat} (h : j < r.guards.length) : outT rs i r (j + 1) = addT (outT rs i r j) (r.guards.getD j thr0) := by
  rw [outT, take_succ_getD thr0 h, ← List.append_assoc, List.foldl_append]; rfl
theorem outT_all (rs : List Rul) {i : Nat} (h : i < rs.length) : outT rs i (rs.getD i rul0) (rs.getD i rul0).guards.length = thrL (rs.take (i + 1)) := by
  rw [thrL, take_succ_getD rul0 h, List.flatMap_append, outT, List.take_length]; simp
theorem outT_len {p : Pro} (h : ¬ bigP p) (i j : Nat) : (outT p.rules i (p.rules.getD i rul0) j).length ≤ 3000 := by
  have h1 := flat_len (rs := p.rules.take i) fun r hr => guards_len h r (List.mem_of_mem_take hr)
  have h2 := foldl_addT_len ((((p.rules.take i).flatMap (·.guards)) ++ (p.rules.getD i rul0).guards.take j)) []
  have h3 := (bigP_le h).2.2.2.2.2.2.2
  have h4 : (p.rules.getD i rul0).guards.length ≤ 60 := by
    by_cases hi : i < p.rules.length
    · exact (bigR_le (bigP_rule h hi)).2.2.1
    · rw [List.getD_eq_getElem?_getD, List.getElem?_eq_none (by omega)]; simp [rul0]
  unfold outT
  simp only [List.length_append, List.length_take, List.length_nil] at h1 h2
  omega
theorem thresholdsF (p : Pro) (hp : ¬ bigP p) : PSpec Tryz.prog 59 [.agg (encP p)] (fun u => u = .sl thr0 encThr (thrL p.rules)) := by
  have hle := bigP_le hp
  refine PSpec.intro tt_ok mx_ok Tryz.func59 rfl (by decide) ?_; (conv => whnf)
  refine boxP rfl ?_
  conv => whnf
  refine WPc.loopF tt_ok mx_ok (fun i : Nat => i ≤ p.rules.length) (fun i => [(11, .int .i64 (i : Int)), (3, .row 1000 (thrL (p.rules.take i)).length 6)]) (fun i => [(1000, rowT (thrL (p.rules.take i)))]) (fun i => p.rules.length - i) 0 (by omega) ?_; conv => whnf
  refine ⟨Sub.by_ [(1000, .nil 6)] _ 400 rfl (auto_) (auto_), ?_⟩
  intro i hi
  conv => whnf
  refine cmpI (fun h1 => ?_) (fun h1 => ?_) <;> conv => whnf
  · refine needI (by omega) ?_
    rw [Int.toNat_natCast]
    have hil : i < p.rules.length := by omega
    have hgl := (bigR_le (bigP_rule hp hil)).2.2.1
    have hpl := outT_len hp i
    have hall := outT_all p.rules hil
    have hzero := outT_zero p.rules i (p.rules.getD i rul0)
    have hsucc := fun j => outT_succ p.rules i (p.rules.getD i rul0) (j := j)
    generalize p.rules.getD i rul0 = r at hgl hpl hall hzero hsucc
    rw [← hzero]
    generalize outT p.rules i r = out at hpl hall hsucc
    conv => whnf
    refine WPc.loopF tt_ok mx_ok (fun j : Nat => j ≤ r.guards.length) (fun j => [(18, .int .i64 (j : Int)), (3, .row 1000 (out j).length 6), (5, .top), (15, .top)]) (fun j => [(1000, rowT (out j))]) (fun j => r.guards.length - j) 0 (by omega) ?_; conv => whnf
    refine ⟨(Sub.id_ 400 rfl auto_ auto_), ?_⟩
    intro j hj
    conv => whnf
    refine cmpI (fun h2 => ?_) (fun h2 => ?_) <;> conv => whnf
    · refine needI (by omega) ?_
      rw [Int.toNat_natCast]
      have hs := hsucc j (by omega)
      have hlj := hpl j
      generalize r.guards.getD j thr0 = g at hs
      conv => whnf
      refine Spec.borrow (n := 5) (thrContainsF (out j) g (by omega)) rfl (by rintro _ rfl; rfl) ?_
      rintro _ rfl
      by_cases hm : g ∈ out j
      · rw [decide_eq_true hm]
        conv => whnf
        repeat' (first
            | (refine needI (by first | omega | (dsimp only; omega)) ?_; conv => whnf)
            | (refine arI trivial (by omega) ?_; conv => whnf)
            | (refine arU trivial (by omega) ?_; conv => whnf)
            | (refine arB trivial (by omega) ?_; conv => whnf)
            | (refine drawI (by decide +kernel) ?_; conv => whnf)
            | (refine drawR (by decide +kernel) ?_; conv => whnf)
            | (refine drawP (by decide +kernel) ?_; conv => whnf)
            | (refine boxP rfl ?_; conv => whnf)
            | (refine appI _ rfl (by first | omega | (dsimp only; omega) | (simp only [List.length_cons, List.length_nil, List.length_append]; omega)) ?_; conv => whnf)
            | (refine rowSetI _ rfl ?_; conv => whnf)
            | (refine cmpT (by omega) ?_; conv => whnf)
            | (refine cmpF (by omega) ?_; conv => whnf)
            | (refine cmpI (fun _ => ?_) (fun _ => ?_) <;> conv => whnf))
        have e : out (j + 1) = out j := by rw [hs, addT, if_pos hm]
        refine ⟨j + 1, ?_, by omega, by dsimp only; omega⟩
        dsimp only
        rw [e]
        exact (Sub.id_ 400 rfl auto_ auto_)
      · rw [decide_eq_false hm]
        conv => whnf
        refine bldI thr0 encThr [g] rfl ?_
        conv => whnf
        repeat' (first
            | (refine needI (by first | omega | (dsimp only; omega)) ?_; conv => whnf)
            | (refine arI trivial (by omega) ?_; conv => whnf)
            | (refine arU trivial (by omega) ?_; conv => whnf)
            | (refine arB trivial (by omega) ?_; conv => whnf)
            | (refine drawI (by decide +kernel) ?_; conv => whnf)
            | (refine drawR (by decide +kernel) ?_; conv => whnf)
            | (refine drawP (by decide +kernel) ?_; conv => whnf)
            | (refine boxP rfl ?_; conv => whnf)
            | (refine appI _ rfl (by first | omega | (dsimp only; omega) | (simp only [List.length_cons, List.length_nil, List.length_append]; omega)) ?_; conv => whnf)
            | (refine rowSetI _ rfl ?_; conv => whnf)
            | (refine cmpT (by omega) ?_; conv => whnf)
            | (refine cmpF (by omega) ?_; conv => whnf)
            | (refine cmpI (fun _ => ?_) (fun _ => ?_) <;> conv => whnf))
        have e : out (j + 1) = out j ++ [g] := by rw [hs, addT, if_neg hm]
        refine ⟨j + 1, ?_, by omega, by dsimp only; omega⟩
        dsimp only
        rw [e]
        exact Sub.by_ [(1000, .old 29)] _ 400 rfl (auto_) (auto_)
    · obtain rfl : j = r.guards.length := by omega
      repeat' (first
          | (refine needI (by first | omega | (dsimp only; omega)) ?_; conv => whnf)
          | (refine arI trivial (by omega) ?_; conv => whnf)
          | (refine arU trivial (by omega) ?_; conv => whnf)
          | (refine arB trivial (by omega) ?_; conv => whnf)
          | (refine drawI (by decide +kernel) ?_; conv => whnf)
          | (refine drawR (by decide +kernel) ?_; conv => whnf)
          | (refine drawP (by decide +kernel) ?_; conv => whnf)
          | (refine boxP rfl ?_; conv => whnf)
          | (refine appI _ rfl (by first | omega | (dsimp only; omega) | (simp only [List.length_cons, List.length_nil, List.length_append]; omega)) ?_; conv => whnf)
          | (refine rowSetI _ rfl ?_; conv => whnf)
          | (refine cmpT (by omega) ?_; conv => whnf)
          | (refine cmpF (by omega) ?_; conv => whnf)
          | (refine cmpI (fun _ => ?_) (fun _ => ?_) <;> conv => whnf))
      refine ⟨i + 1, ?_, by omega, by dsimp only; omega⟩
      dsimp only
      rw [← hall]
      exact (Sub.id_ 400 rfl auto_ auto_)
  · obtain rfl : i = p.rules.length := by omega
    rw [List.take_length]
    exact ⟨rfl, rfl⟩
end Go.Proofs.YtcbckmnbdcjeeaaGreatDoor
