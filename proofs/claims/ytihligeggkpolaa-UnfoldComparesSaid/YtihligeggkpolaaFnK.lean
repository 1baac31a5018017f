/-
  Contracts: ends, link (the neighbors of all processes), Neighbors.
-/
import Derived.Test.YtihligeggkpolaaFnJ
import Derived.Test.YtihligeggkpolaaSymW
namespace Go.Proofs.Ytihligeggkpolaa
set_option maxRecDepth 100000

theorem getD_set (l : List Int) (i k : Nat) (v : Int) : (l.set i v).getD k 0 = if i = k ∧ i < l.length then v else l.getD k 0 := by
  rw [List.getD_eq_getElem?_getD, List.getElem?_set]
  by_cases h : i = k
  · subst h
    by_cases h2 : i < l.length
    · simp [h2]
    · simp [h2, List.getD_eq_getElem?_getD]
  · simp [h, List.getD_eq_getElem?_getD]
theorem list_of {l : List Int} {n : Nat} (hl : l.length = n) {g : Nat → Int} (h : ∀ k, k < n → l.getD k 0 = g k) : l = (List.range n).map g := by
  apply List.ext_getElem
  · simp [hl]
  · intro i h1 h2
    have := h i (by omega)
    rw [List.getD_eq_getElem?_getD, List.getElem?_eq_getElem h1] at this
    simpa using this
theorem getD_rep (n k : Nat) (v : Int) (h : k < n) : (List.replicate n v).getD k 0 = v := by
  simp [List.getD_eq_getElem?_getD, List.getElem?_replicate, h]
theorem getD_map_range (n k : Nat) (g : Nat → Int) (h : k < n) : ((List.range n).map g).getD k 0 = g k := by
  simp [List.getD_eq_getElem?_getD, h]

instance (l : List Int) : Decidable (shp l) := inferInstanceAs (Decidable (skipN 1 l = some []))

def endsL (l : List Int) : List Int := (List.range l.length).map fun i => (endAt l i : Int)
theorem shp_pos {l : List Int} (h : shp l) : 0 < l.length := by
  cases l with
  | nil => cases h
  | cons x l => simp

def walkQ (l : List Int) (n : Nat) (row : List Int) : AV → Mem → Prop := fun u M => ∃ n' row', M = Mem.ofL (memE l n' row') ∧ row'.length = l.length ∧ n' ≤ l.length ∧
  ((skipN 1 (l.drop n) = some (l.drop n') ∧ u = .bool true ∧ n < n' ∧ ∀ k : Nat, row'.getD k 0 = if n ≤ k ∧ k < n' then (endAt l k : Int) else row.getD k 0) ∨ (skipN 1 (l.drop n) = none ∧ u = .bool false))
theorem walkG (l : List Int) (hl : l.length ≤ 1000) (n : Nat) (row : List Int) (hn : n ≤ l.length) (hr : row.length = l.length) :
    Spec Try.prog 34 [.ptr 0 0, .pd [.sl 0 encI l], .ptr 2 0, .ptr 3 0] (Mem.ofL (memE l n row)) (walkQ l n row) := by
  refine Spec.norm 400 (walkF l hl _ n row rfl hn hr) ?_
  rintro u M' ⟨n2, row2, hm2, hl2, hn2, hh⟩
  refine ⟨memE l n2 row2, u, rfl, hm2, ?_, n2, row2, rfl, hl2, hn2, hh⟩
  rcases hh with ⟨_, rfl, _⟩ | ⟨_, rfl⟩ <;> rfl

theorem endsF (l : List Int) (hl : l.length ≤ 1000) : PSpec Try.prog 29 [.sl 0 encI l] (fun u => u = if shp l then .sl 0 encI (endsL l) else .nilsl) := by
  refine PSpec.intro tt_ok mx_ok Try.func29 rfl (by decide) ?_; (conv => whnf)
  refine boxP rfl ?_
  conv => whnf
  refine mkI 0 encI 0 rfl (by dsimp only; omega) ?_
  rw [Int.toNat_natCast]
  conv => whnf
  repeat' (first
      | (refine needI (by first | omega | (dsimp only; omega)) ?_; conv => whnf)
      | (refine arI trivial (by omega) ?_; conv => whnf)
      | (refine arU trivial (by omega) ?_; conv => whnf)
      | (refine arB trivial (by omega) ?_; conv => whnf)
      | (refine drawI (by decide +kernel) ?_; conv => whnf)
      | (refine drawR (by decide +kernel) ?_; conv => whnf)
      | (refine boxP rfl ?_; conv => whnf)
      | (refine appI _ rfl (by first | omega | (dsimp only; omega) | (simp only [List.length_cons, List.length_nil, List.length_append]; omega)) ?_; conv => whnf)
      | (refine rowSetI _ rfl ?_; conv => whnf)
      | (refine cmpT (by omega) ?_; conv => whnf)
      | (refine cmpF (by omega) ?_; conv => whnf)
      | (refine cmpI (fun _ => ?_) (fun _ => ?_) <;> conv => whnf))
  refine Spec.call [(0, .old 4), (2, .old 5), (3, .old 3), (4, .old 8)] (memE l 0 (List.replicate l.length 0)) 400 rfl (by repeat' (first | exact True.intro | exact rfl | (refine And.intro ?_ ?_) | ((conv => whnf); omega) | ((conv => whnf); simp only [List.length_append, List.length_cons, List.length_nil]; done) | ((conv => whnf); simp only [List.length_append, List.length_cons, List.length_nil]; omega))) (by repeat' (first | exact True.intro | exact rfl | (refine And.intro ?_ ?_) | ((conv => whnf); omega) | ((conv => whnf); simp only [List.length_append, List.length_cons, List.length_nil]; done) | ((conv => whnf); simp only [List.length_append, List.length_cons, List.length_nil]; omega))) (walkG l hl 0 (List.replicate l.length 0) (by omega) (by simp)) ?_
  rintro u M' ⟨n2, row2, rfl, hl2, hn2, hh⟩
  rcases hh with ⟨h1, rfl, h2, h3⟩ | ⟨h1, rfl⟩
  · refine ⟨[(4, .old 0), (5, .old 2), (3, .old 3), (8, .old 4)], [(4, .box 3 [.int .i64 (n2 : Int)]), (5, .box 27 [.fn 34 [.ptr 4 0, .pd [.sl 0 encI l], .ptr 5 0, .ptr 3 0]]), (3, .box 29 [.row 8 l.length 1]), (8, rowN row2)], .bool true, rfl, (by repeat' (first | exact True.intro | exact rfl | (refine And.intro ?_ ?_) | ((conv => whnf); omega) | ((conv => whnf); simp only [List.length_append, List.length_cons, List.length_nil]; done) | ((conv => whnf); simp only [List.length_append, List.length_cons, List.length_nil]; omega))), rfl, ?_⟩
    conv => whnf
    rw [List.drop_zero] at h1
    repeat' (first
        | (refine needI (by first | omega | (dsimp only; omega)) ?_; conv => whnf)
        | (refine arI trivial (by omega) ?_; conv => whnf)
        | (refine arU trivial (by omega) ?_; conv => whnf)
        | (refine arB trivial (by omega) ?_; conv => whnf)
        | (refine drawI (by decide +kernel) ?_; conv => whnf)
        | (refine drawR (by decide +kernel) ?_; conv => whnf)
        | (refine boxP rfl ?_; conv => whnf)
        | (refine appI _ rfl (by first | omega | (dsimp only; omega) | (simp only [List.length_cons, List.length_nil, List.length_append]; omega)) ?_; conv => whnf)
        | (refine rowSetI _ rfl ?_; conv => whnf)
        | (refine cmpT (by omega) ?_; conv => whnf)
        | (refine cmpF (by omega) ?_; conv => whnf)
        | (refine cmpI (fun _ => ?_) (fun _ => ?_) <;> conv => whnf))
    · rename_i hne
      rw [if_neg]
      · exact ⟨rfl, rfl⟩
      · intro hs
        rw [shp, h1, Option.some.injEq] at hs
        have := congrArg List.length hs
        simp at this
        omega
    · rename_i hne
      obtain rfl : n2 = l.length := by omega
      rw [List.drop_length] at h1
      rw [if_pos (show shp l from h1)]
      refine ⟨sl_eq (list_of hl2 fun k hk => ?_), rfl⟩
      rw [h3 k, if_pos (by omega)]
  · refine ⟨[(4, .old 0), (5, .old 2), (3, .old 3), (8, .old 4)], [(4, .box 3 [.int .i64 (n2 : Int)]), (5, .box 27 [.fn 34 [.ptr 4 0, .pd [.sl 0 encI l], .ptr 5 0, .ptr 3 0]]), (3, .box 29 [.row 8 l.length 1]), (8, rowN row2)], .bool false, rfl, (by repeat' (first | exact True.intro | exact rfl | (refine And.intro ?_ ?_) | ((conv => whnf); omega) | ((conv => whnf); simp only [List.length_append, List.length_cons, List.length_nil]; done) | ((conv => whnf); simp only [List.length_append, List.length_cons, List.length_nil]; omega))), rfl, ?_⟩
    conv => whnf
    rw [List.drop_zero] at h1
    repeat' (first
        | (refine needI (by first | omega | (dsimp only; omega)) ?_; conv => whnf)
        | (refine arI trivial (by omega) ?_; conv => whnf)
        | (refine arU trivial (by omega) ?_; conv => whnf)
        | (refine arB trivial (by omega) ?_; conv => whnf)
        | (refine drawI (by decide +kernel) ?_; conv => whnf)
        | (refine drawR (by decide +kernel) ?_; conv => whnf)
        | (refine boxP rfl ?_; conv => whnf)
        | (refine appI _ rfl (by first | omega | (dsimp only; omega) | (simp only [List.length_cons, List.length_nil, List.length_append]; omega)) ?_; conv => whnf)
        | (refine rowSetI _ rfl ?_; conv => whnf)
        | (refine cmpT (by omega) ?_; conv => whnf)
        | (refine cmpF (by omega) ?_; conv => whnf)
        | (refine cmpI (fun _ => ?_) (fun _ => ?_) <;> conv => whnf))
    rw [if_neg (by rw [shp, h1]; intro h; cases h)]
    exact ⟨rfl, rfl⟩

/-! ### link -/
def lkB (t : Int) (l : List Int) (n : Nat) : Bool := decide (t = 4 → shp l ∧ l.length = n)
def nbF (t : Int) (l : List Int) (n i : Nat) : Int := if t = 2 then (i : Int) - 1 else if t = 3 then (if i = 0 then (n : Int) - 1 else (i : Int) - 1) else if t = 4 ∧ lkB t l n = true then firstT l i else -1
def nbS (t : Int) (l : List Int) (n i : Nat) : Int := if t = 2 then (if i + 1 = n then -1 else (i : Int) + 1) else if t = 3 then (if i + 1 = n then 0 else (i : Int) + 1) else if t = 4 ∧ lkB t l n = true then secondT l i else -1
def nbP (t : Int) (l : List Int) (n i : Nat) : Int := if t = 4 ∧ lkB t l n = true then parentT l i else -1
def linkA (t : Int) (l : List Int) (n : Nat) : AV := .agg [.sl 0 encI ((List.range n).map (nbF t l n)), .sl 0 encI ((List.range n).map (nbS t l n)), .sl 0 encI ((List.range n).map (nbP t l n))]
theorem linkA_eq {t : Int} {l : List Int} {n : Nat} {f s p : List Int} {b : Bool} (hf : f.length = n) (hs : s.length = n) (hp : p.length = n) (h : ∀ k, k < n → f.getD k 0 = nbF t l n k ∧ s.getD k 0 = nbS t l n k ∧ p.getD k 0 = nbP t l n k) (hb : b = lkB t l n) :
    AV.tup [.agg [.sl 0 encI f, .sl 0 encI s, .sl 0 encI p], .bool b] = .tup [linkA t l n, .bool (lkB t l n)] := by
  rw [hb, linkA, list_of hf fun k hk => (h k hk).1, list_of hs fun k hk => (h k hk).2.1, list_of hp fun k hk => (h k hk).2.2]
def memK (n : Nat) (f s p : List Int) : List (Nat × Blk) := [(6, .box 47 [.nilsl, .nilsl, .nilsl]), (8, .box 47 [.row 14 n 1, .row 16 n 1, .row 18 n 1]), (14, rowN f), (16, rowN s), (18, rowN p)]

theorem linkF (t : Int) (l : List Int) (n : Nat) (hl : l.length ≤ 1000) (hn : n ≤ 1000) : PSpec Try.prog 22 [.int .i64 t, .sl 0 encI l, .int .i64 (n : Int)] (fun u => u = .tup [linkA t l n, .bool (lkB t l n)]) := by
  refine PSpec.intro tt_ok mx_ok Try.func22 rfl (by decide) ?_; (conv => whnf)
  refine Spec.fresh 14 (noneF n hn) rfl (by repeat' (first | exact True.intro | exact rfl | (refine And.intro ?_ ?_) | ((conv => whnf); omega) | ((conv => whnf); simp only [List.length_append, List.length_cons, List.length_nil]; done) | ((conv => whnf); simp only [List.length_append, List.length_cons, List.length_nil]; omega))) ?_
  conv => whnf
  refine Spec.fresh 16 (noneF n hn) rfl (by repeat' (first | exact True.intro | exact rfl | (refine And.intro ?_ ?_) | ((conv => whnf); omega) | ((conv => whnf); simp only [List.length_append, List.length_cons, List.length_nil]; done) | ((conv => whnf); simp only [List.length_append, List.length_cons, List.length_nil]; omega))) ?_
  conv => whnf
  refine Spec.fresh 18 (noneF n hn) rfl (by repeat' (first | exact True.intro | exact rfl | (refine And.intro ?_ ?_) | ((conv => whnf); omega) | ((conv => whnf); simp only [List.length_append, List.length_cons, List.length_nil]; done) | ((conv => whnf); simp only [List.length_append, List.length_cons, List.length_nil]; omega))) ?_
  conv => whnf
  by_cases h23 : t = 2 ∨ t = 3
  · repeat' (first
        | (refine needI (by first | omega | (dsimp only; omega)) ?_; conv => whnf)
        | (refine arI trivial (by omega) ?_; conv => whnf)
        | (refine arU trivial (by omega) ?_; conv => whnf)
        | (refine arB trivial (by omega) ?_; conv => whnf)
        | (refine drawI (by decide +kernel) ?_; conv => whnf)
        | (refine drawR (by decide +kernel) ?_; conv => whnf)
        | (refine boxP rfl ?_; conv => whnf)
        | (refine appI _ rfl (by first | omega | (dsimp only; omega) | (simp only [List.length_cons, List.length_nil, List.length_append]; omega)) ?_; conv => whnf)
        | (refine rowSetI _ rfl ?_; conv => whnf)
        | (refine cmpT (by omega) ?_; conv => whnf)
        | (refine cmpF (by omega) ?_; conv => whnf)
        | (refine cmpI (fun _ => ?_) (fun _ => ?_) <;> conv => whnf))
    all_goals
      refine WPc.loopF tt_ok mx_ok (fun ((i, f, s) : Nat × List Int × List Int) => i ≤ n ∧ f.length = n ∧ s.length = n ∧ ∀ k, k < n → f.getD k 0 = (if k < i then (k : Int) - 1 else -1) ∧ s.getD k 0 = if k < i then (k : Int) + 1 else -1) (fun (i, _, _) => [(25, .int .i64 (i : Int))]) (fun (_, f, s) => memK n f s (List.replicate n (-1))) (fun (i, _, _) => n - i) (0, List.replicate n (-1), List.replicate n (-1)) ⟨Nat.zero_le _, List.length_replicate, List.length_replicate, fun k hk => by rw [getD_rep _ _ _ hk, if_neg (by simp), if_neg (by simp)]; exact ⟨rfl, rfl⟩⟩ ?_; conv => whnf
      refine ⟨(Sub.id_ 400 rfl (by repeat' (first | exact True.intro | exact rfl | (refine And.intro ?_ ?_) | ((conv => whnf); omega) | ((conv => whnf); simp only [List.length_append, List.length_cons, List.length_nil]; done) | ((conv => whnf); simp only [List.length_append, List.length_cons, List.length_nil]; omega))) (by repeat' (first | exact True.intro | exact rfl | (refine And.intro ?_ ?_) | ((conv => whnf); omega) | ((conv => whnf); simp only [List.length_append, List.length_cons, List.length_nil]; done) | ((conv => whnf); simp only [List.length_append, List.length_cons, List.length_nil]; omega)))), ?_⟩
      rintro ⟨i, f, s⟩ ⟨hi, hf, hs, hp⟩
      conv => whnf
      repeat' (first
          | (refine needI (by first | omega | (dsimp only; omega)) ?_; conv => whnf)
          | (refine arI trivial (by omega) ?_; conv => whnf)
          | (refine arU trivial (by omega) ?_; conv => whnf)
          | (refine arB trivial (by omega) ?_; conv => whnf)
          | (refine drawI (by decide +kernel) ?_; conv => whnf)
          | (refine drawR (by decide +kernel) ?_; conv => whnf)
          | (refine boxP rfl ?_; conv => whnf)
          | (refine appI _ rfl (by first | omega | (dsimp only; omega) | (simp only [List.length_cons, List.length_nil, List.length_append]; omega)) ?_; conv => whnf)
          | (refine rowSetI _ rfl ?_; conv => whnf)
          | (refine cmpT (by omega) ?_; conv => whnf)
          | (refine cmpF (by omega) ?_; conv => whnf)
          | (refine cmpI (fun _ => ?_) (fun _ => ?_) <;> conv => whnf))
      · refine ⟨(i + 1, f.set i ((i : Int) - 1), s.set i ((i : Int) + 1)), (Sub.id_ 400 rfl (by repeat' (first | exact True.intro | exact rfl | (refine And.intro ?_ ?_) | ((conv => whnf); omega) | ((conv => whnf); simp only [List.length_append, List.length_cons, List.length_nil]; done) | ((conv => whnf); simp only [List.length_append, List.length_cons, List.length_nil]; omega))) (by repeat' (first | exact True.intro | exact rfl | (refine And.intro ?_ ?_) | ((conv => whnf); omega) | ((conv => whnf); simp only [List.length_append, List.length_cons, List.length_nil]; done) | ((conv => whnf); simp only [List.length_append, List.length_cons, List.length_nil]; omega)))), ⟨by omega, by simpa using hf, by simpa using hs, fun k hk => ?_⟩, by dsimp only; omega⟩
        rw [getD_set, getD_set, (hp k hk).1, (hp k hk).2]
        constructor <;> (repeat' split) <;> omega
      all_goals
        refine ⟨linkA_eq (by simpa using hf) (by simpa using hs) (by simp) (fun k hk => ?_) (by unfold lkB; rw [decide_eq_true]; intro h; omega), rfl⟩
        simp only [getD_set, List.length_set, (hp k hk).1, (hp k hk).2, getD_rep _ _ _ hk]
        unfold nbF nbS nbP
        refine ⟨?_, ?_, ?_⟩ <;> (repeat' split) <;> omega
  · by_cases h4 : t = 4
    · subst h4
      repeat' (first
          | (refine needI (by first | omega | (dsimp only; omega)) ?_; conv => whnf)
          | (refine arI trivial (by omega) ?_; conv => whnf)
          | (refine arU trivial (by omega) ?_; conv => whnf)
          | (refine arB trivial (by omega) ?_; conv => whnf)
          | (refine drawI (by decide +kernel) ?_; conv => whnf)
          | (refine drawR (by decide +kernel) ?_; conv => whnf)
          | (refine boxP rfl ?_; conv => whnf)
          | (refine appI _ rfl (by first | omega | (dsimp only; omega) | (simp only [List.length_cons, List.length_nil, List.length_append]; omega)) ?_; conv => whnf)
          | (refine rowSetI _ rfl ?_; conv => whnf)
          | (refine cmpT (by omega) ?_; conv => whnf)
          | (refine cmpF (by omega) ?_; conv => whnf)
          | (refine cmpI (fun _ => ?_) (fun _ => ?_) <;> conv => whnf))
      by_cases hsh : shp l
      · have he := endsF l hl
        rw [if_pos hsh] at he
        have hel : (endsL l).length = l.length := by simp [endsL]
        have hpos := shp_pos hsh
        (refine Spec.of_pure (n := 5) (he) rfl ?_; rintro _ rfl; conv => whnf)
        refine needI (by intro h; rw [h] at hel; simp at hel; omega) ?_
        conv => whnf
        by_cases hln : l.length = n
        · subst hln
          repeat' (first
              | (refine needI (by first | omega | (dsimp only; omega)) ?_; conv => whnf)
              | (refine arI trivial (by omega) ?_; conv => whnf)
              | (refine arU trivial (by omega) ?_; conv => whnf)
              | (refine arB trivial (by omega) ?_; conv => whnf)
              | (refine drawI (by decide +kernel) ?_; conv => whnf)
              | (refine drawR (by decide +kernel) ?_; conv => whnf)
              | (refine boxP rfl ?_; conv => whnf)
              | (refine appI _ rfl (by first | omega | (dsimp only; omega) | (simp only [List.length_cons, List.length_nil, List.length_append]; omega)) ?_; conv => whnf)
              | (refine rowSetI _ rfl ?_; conv => whnf)
              | (refine cmpT (by omega) ?_; conv => whnf)
              | (refine cmpF (by omega) ?_; conv => whnf)
              | (refine cmpI (fun _ => ?_) (fun _ => ?_) <;> conv => whnf))
          refine WPc.loopF tt_ok mx_ok (fun ((i, f, s, p) : Nat × List Int × List Int × List Int) => i ≤ l.length ∧ f.length = l.length ∧ s.length = l.length ∧ p.length = l.length ∧ ∀ k, k < l.length → f.getD k 0 = (if k < i then firstT l k else -1) ∧ s.getD k 0 = (if k < i then secondT l k else -1) ∧ p.getD k 0 = parN l k i) (fun (i, _, _, _) => [(79, .int .i64 (i : Int))]) (fun (_, f, s, p) => memK l.length f s p) (fun (i, _, _, _) => l.length - i) (0, List.replicate l.length (-1), List.replicate l.length (-1), List.replicate l.length (-1)) ⟨Nat.zero_le _, List.length_replicate, List.length_replicate, List.length_replicate, fun k hk => by rw [getD_rep _ _ _ hk, if_neg (by simp), if_neg (by simp)]; exact ⟨rfl, rfl, rfl⟩⟩ ?_; conv => whnf
          refine ⟨(Sub.id_ 400 rfl (by repeat' (first | exact True.intro | exact rfl | (refine And.intro ?_ ?_) | ((conv => whnf); omega) | ((conv => whnf); simp only [List.length_append, List.length_cons, List.length_nil]; done) | ((conv => whnf); simp only [List.length_append, List.length_cons, List.length_nil]; omega))) (by repeat' (first | exact True.intro | exact rfl | (refine And.intro ?_ ?_) | ((conv => whnf); omega) | ((conv => whnf); simp only [List.length_append, List.length_cons, List.length_nil]; done) | ((conv => whnf); simp only [List.length_append, List.length_cons, List.length_nil]; omega)))), ?_⟩
          rintro ⟨i, f, s, p⟩ ⟨hi, hf, hs, hp, hall⟩
          conv => whnf
          refine cmpI (fun hlt => ?_) (fun hlt => ?_) <;> conv => whnf
          · have hil : i < l.length := by omega
            by_cases h2 : l.getD (i : Int).toNat 0 = 2
            · obtain ⟨a1, a2, a3, a4, a5⟩ := hsh.two hil (by simpa using h2)
              have hv : (endsL l).getD ((i : Int) + 1).toNat 0 = (endAt l (i + 1) : Int) := by
                rw [show ((i : Int) + 1).toNat = i + 1 by omega]
                exact getD_map_range _ _ _ a1
              repeat' (first
                  | (refine needI (by first | omega | (dsimp only; omega)) ?_; conv => whnf)
                  | (refine arI trivial (by omega) ?_; conv => whnf)
                  | (refine arU trivial (by omega) ?_; conv => whnf)
                  | (refine arB trivial (by omega) ?_; conv => whnf)
                  | (refine drawI (by decide +kernel) ?_; conv => whnf)
                  | (refine drawR (by decide +kernel) ?_; conv => whnf)
                  | (refine boxP rfl ?_; conv => whnf)
                  | (refine appI _ rfl (by first | omega | (dsimp only; omega) | (simp only [List.length_cons, List.length_nil, List.length_append]; omega)) ?_; conv => whnf)
                  | (refine rowSetI _ rfl ?_; conv => whnf)
                  | (refine cmpT (by omega) ?_; conv => whnf)
                  | (refine cmpF (by omega) ?_; conv => whnf)
                  | (refine cmpI (fun _ => ?_) (fun _ => ?_) <;> conv => whnf))
              refine ⟨(i + 1, f.set i ((i : Int) + 1), s.set i ((endsL l).getD ((i : Int) + 1).toNat 0), (p.set ((i : Int) + 1).toNat i).set ((endsL l).getD ((i : Int) + 1).toNat 0).toNat i), (Sub.id_ 400 rfl (by repeat' (first | exact True.intro | exact rfl | (refine And.intro ?_ ?_) | ((conv => whnf); omega) | ((conv => whnf); simp only [List.length_append, List.length_cons, List.length_nil]; done) | ((conv => whnf); simp only [List.length_append, List.length_cons, List.length_nil]; omega))) (by repeat' (first | exact True.intro | exact rfl | (refine And.intro ?_ ?_) | ((conv => whnf); omega) | ((conv => whnf); simp only [List.length_append, List.length_cons, List.length_nil]; done) | ((conv => whnf); simp only [List.length_append, List.length_cons, List.length_nil]; omega)))), ⟨by omega, by simpa using hf, by simpa using hs, by simpa using hp, fun k hk => ?_⟩, by dsimp only; omega⟩
              obtain ⟨b1, b2, b3⟩ := hall k hk
              rw [getD_set, getD_set, getD_set, getD_set, List.length_set, hv, b1, b2, b3, parN_succ]
              rw [Int.toNat_natCast] at h2
              refine ⟨?_, ?_, ?_⟩
              · by_cases hik : i = k
                · subst hik; rw [if_pos (by omega), if_pos (by omega), firstT, if_pos h2]; omega
                · rw [if_neg (by omega)]; (repeat' split) <;> first | rfl | omega
              · by_cases hik : i = k
                · subst hik; rw [if_pos (by omega), if_pos (by omega), secondT, if_pos h2]
                · rw [if_neg (by omega)]; (repeat' split) <;> first | rfl | omega
              · by_cases hpk : isPar l k i = true
                · rw [if_pos hpk]
                  simp only [isPar, Bool.and_eq_true, Bool.or_eq_true, decide_eq_true_eq] at hpk
                  rcases hpk.2 with e | e
                  · by_cases hx : (endAt l (i + 1) : Int).toNat = k
                    · rw [if_pos (by omega)]
                    · rw [if_neg (by omega), if_pos (by omega)]
                  · rw [if_pos (by omega)]
                · rw [if_neg hpk]
                  simp only [isPar, h2, decide_true, Bool.true_and, Bool.or_eq_true, decide_eq_true_eq, not_or] at hpk
                  rw [if_neg (by omega), if_neg (by omega)]
            · repeat' (first
                  | (refine needI (by first | omega | (dsimp only; omega)) ?_; conv => whnf)
                  | (refine arI trivial (by omega) ?_; conv => whnf)
                  | (refine arU trivial (by omega) ?_; conv => whnf)
                  | (refine arB trivial (by omega) ?_; conv => whnf)
                  | (refine drawI (by decide +kernel) ?_; conv => whnf)
                  | (refine drawR (by decide +kernel) ?_; conv => whnf)
                  | (refine boxP rfl ?_; conv => whnf)
                  | (refine appI _ rfl (by first | omega | (dsimp only; omega) | (simp only [List.length_cons, List.length_nil, List.length_append]; omega)) ?_; conv => whnf)
                  | (refine rowSetI _ rfl ?_; conv => whnf)
                  | (refine cmpT (by omega) ?_; conv => whnf)
                  | (refine cmpF (by omega) ?_; conv => whnf)
                  | (refine cmpI (fun _ => ?_) (fun _ => ?_) <;> conv => whnf))
              refine ⟨(i + 1, f, s, p), (Sub.id_ 400 rfl (by repeat' (first | exact True.intro | exact rfl | (refine And.intro ?_ ?_) | ((conv => whnf); omega) | ((conv => whnf); simp only [List.length_append, List.length_cons, List.length_nil]; done) | ((conv => whnf); simp only [List.length_append, List.length_cons, List.length_nil]; omega))) (by repeat' (first | exact True.intro | exact rfl | (refine And.intro ?_ ?_) | ((conv => whnf); omega) | ((conv => whnf); simp only [List.length_append, List.length_cons, List.length_nil]; done) | ((conv => whnf); simp only [List.length_append, List.length_cons, List.length_nil]; omega)))), ⟨by omega, hf, hs, hp, fun k hk => ?_⟩, by dsimp only; omega⟩
              obtain ⟨b1, b2, b3⟩ := hall k hk
              rw [Int.toNat_natCast] at h2
              rw [b1, b2, b3, parN_succ, if_neg (show ¬ isPar l k i = true by simp [isPar]; intro h; exact absurd h h2)]
              refine ⟨?_, ?_, rfl⟩
              · by_cases hik : i = k
                · subst hik; rw [if_neg (by omega), if_pos (by omega), firstT, if_neg h2]
                · (repeat' split) <;> first | rfl | omega
              · by_cases hik : i = k
                · subst hik; rw [if_neg (by omega), if_pos (by omega), secondT, if_neg h2]
                · (repeat' split) <;> first | rfl | omega
          · obtain rfl : i = l.length := by omega
            have hlk : lkB 4 l l.length = true := by unfold lkB; rw [decide_eq_true]; exact fun _ => ⟨hsh, rfl⟩
            refine ⟨linkA_eq hf hs hp (fun k hk => ?_) hlk.symm, rfl⟩
            obtain ⟨b1, b2, b3⟩ := hall k hk
            rw [b1, b2, b3, if_pos hk, if_pos hk, parN_all hsh hk]
            simp [nbF, nbS, nbP, hlk]
        · repeat' (first
              | (refine needI (by first | omega | (dsimp only; omega)) ?_; conv => whnf)
              | (refine arI trivial (by omega) ?_; conv => whnf)
              | (refine arU trivial (by omega) ?_; conv => whnf)
              | (refine arB trivial (by omega) ?_; conv => whnf)
              | (refine drawI (by decide +kernel) ?_; conv => whnf)
              | (refine drawR (by decide +kernel) ?_; conv => whnf)
              | (refine boxP rfl ?_; conv => whnf)
              | (refine appI _ rfl (by first | omega | (dsimp only; omega) | (simp only [List.length_cons, List.length_nil, List.length_append]; omega)) ?_; conv => whnf)
              | (refine rowSetI _ rfl ?_; conv => whnf)
              | (refine cmpT (by omega) ?_; conv => whnf)
              | (refine cmpF (by omega) ?_; conv => whnf)
              | (refine cmpI (fun _ => ?_) (fun _ => ?_) <;> conv => whnf))
          have hlk : lkB 4 l n = false := by unfold lkB; rw [decide_eq_false]; exact fun h => hln (h rfl).2
          refine ⟨linkA_eq (by simp) (by simp) (by simp) (fun k hk => ?_) hlk.symm, rfl⟩
          rw [getD_rep _ _ _ hk, nbF, nbS, nbP, hlk]
          exact ⟨rfl, rfl, rfl⟩
      · have he := endsF l hl
        rw [if_neg hsh] at he
        (refine Spec.of_pure (n := 5) (he) rfl ?_; rintro _ rfl; conv => whnf)
        repeat' (first
            | (refine needI (by first | omega | (dsimp only; omega)) ?_; conv => whnf)
            | (refine arI trivial (by omega) ?_; conv => whnf)
            | (refine arU trivial (by omega) ?_; conv => whnf)
            | (refine arB trivial (by omega) ?_; conv => whnf)
            | (refine drawI (by decide +kernel) ?_; conv => whnf)
            | (refine drawR (by decide +kernel) ?_; conv => whnf)
            | (refine boxP rfl ?_; conv => whnf)
            | (refine appI _ rfl (by first | omega | (dsimp only; omega) | (simp only [List.length_cons, List.length_nil, List.length_append]; omega)) ?_; conv => whnf)
            | (refine rowSetI _ rfl ?_; conv => whnf)
            | (refine cmpT (by omega) ?_; conv => whnf)
            | (refine cmpF (by omega) ?_; conv => whnf)
            | (refine cmpI (fun _ => ?_) (fun _ => ?_) <;> conv => whnf))
        have hlk : lkB 4 l n = false := by unfold lkB; rw [decide_eq_false]; exact fun h => hsh (h rfl).1
        refine ⟨linkA_eq (by simp) (by simp) (by simp) (fun k hk => ?_) hlk.symm, rfl⟩
        rw [getD_rep _ _ _ hk, nbF, nbS, nbP, hlk]
        exact ⟨rfl, rfl, rfl⟩
    · repeat' (first
          | (refine needI (by first | omega | (dsimp only; omega)) ?_; conv => whnf)
          | (refine arI trivial (by omega) ?_; conv => whnf)
          | (refine arU trivial (by omega) ?_; conv => whnf)
          | (refine arB trivial (by omega) ?_; conv => whnf)
          | (refine drawI (by decide +kernel) ?_; conv => whnf)
          | (refine drawR (by decide +kernel) ?_; conv => whnf)
          | (refine boxP rfl ?_; conv => whnf)
          | (refine appI _ rfl (by first | omega | (dsimp only; omega) | (simp only [List.length_cons, List.length_nil, List.length_append]; omega)) ?_; conv => whnf)
          | (refine rowSetI _ rfl ?_; conv => whnf)
          | (refine cmpT (by omega) ?_; conv => whnf)
          | (refine cmpF (by omega) ?_; conv => whnf)
          | (refine cmpI (fun _ => ?_) (fun _ => ?_) <;> conv => whnf))
      refine ⟨linkA_eq (by simp) (by simp) (by simp) (fun k hk => ?_) (by unfold lkB; rw [decide_eq_true]; intro h; omega), rfl⟩
      rw [getD_rep _ _ _ hk, nbF, nbS, nbP, if_neg (by omega), if_neg (by omega), if_neg (by omega), if_neg (by omega), if_neg (by omega), if_neg (by omega), if_neg (by omega)]
      exact ⟨rfl, rfl, rfl⟩
end Go.Proofs.Ytihligeggkpolaa
