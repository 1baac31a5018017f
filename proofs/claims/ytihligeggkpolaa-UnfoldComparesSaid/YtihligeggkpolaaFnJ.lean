/- Neighbors: lists of -1; where subtrees end -/
import Derived.Test.YtihligeggkpolaaFnI
import Derived.Test.YtihligeggkpolaaPlB
import Derived.Test.YtihligeggkpolaaSymV
namespace Go.Proofs.Ytihligeggkpolaa
set_option maxRecDepth 100000

def rowN (l : List Int) : Blk := .row 3 0 encI l

theorem rowN_eq {l l' : List Int} (lm : LMap) (h : l = l') : blkR lm 400 (some (rowN l)) (rowN l') := by subst h; rfl

theorem noneF (k : Nat) (hn : k ≤ 1000) : Spec Try.prog 28 [.int .i64 (k : Int)] (Mem.ofL []) (fun u M => ∃ ℓ0, u = .row ℓ0 k 1 ∧ M ℓ0 = some (rowN (List.replicate k (-1)))) := by
  refine Spec.intro tt_ok mx_ok [] Try.func28 rfl (by decide) ?_
  conv => whnf
  rw [if_neg (by omega)]
  refine mkI 0 encI 0 rfl (by dsimp only; omega) ?_
  rw [Int.toNat_natCast]
  conv => whnf
  repeat' (first
      | (refine needI (by first | omega | (dsimp only; omega)) ?_; conv => whnf)
      | (refine arI trivial (by omega) ?_; conv => whnf)
      | (refine arU trivial (by omega) ?_; conv => whnf)
      | (refine arB trivial (by omega) ?_; conv => whnf)
      | (refine drawI (by decide +kernel) ?_; conv => whnf)
      | (refine drawR (by decide +kernel) ?_; conv => whnf)
      | (refine boxP rfl ?_; conv => whnf)
      | (refine appI _ rfl (by first | omega | (dsimp only; omega) | (simp only [List.length_cons, List.length_nil, List.length_append]; omega)) ?_; conv => whnf)
      | (refine rowSetI _ rfl ?_; conv => whnf)
      | (refine cmpT (by omega) ?_; conv => whnf)
      | (refine cmpF (by omega) ?_; conv => whnf)
      | (refine cmpI (fun _ => ?_) (fun _ => ?_) <;> conv => whnf))
  refine WPc.loop (fun i : Nat => i ≤ k) (fun i => (.top :: .top :: .top :: (.row 7 k 1) :: .top :: .top :: .top :: .top :: .top :: (.int .i64 (k : Int)) :: (.int .i64 (i : Int)) :: T 7)) (fun i => Mem.ofL [(7, rowN (List.replicate i (-1) ++ List.replicate (k - i) 0))]) (fun i => k - i) 0 (by omega) (Sub.by_ [(7, .old 7)] _ 400 rfl ⟨rowN_eq _ (by simp), trivial⟩ (by repeat' (first | exact True.intro | exact rfl | (refine And.intro ?_ ?_) | ((conv => whnf); omega) | ((conv => whnf); simp only [List.length_append, List.length_cons, List.length_nil]; done) | ((conv => whnf); simp only [List.length_append, List.length_cons, List.length_nil]; omega)))) ?_
  intro i hi
  refine codeK_ok tt_ok mx_ok _ _ _ _ ?_
  conv => whnf
  repeat' (first
      | (refine needI (by first | omega | (dsimp only; omega)) ?_; conv => whnf)
      | (refine arI trivial (by omega) ?_; conv => whnf)
      | (refine arU trivial (by omega) ?_; conv => whnf)
      | (refine arB trivial (by omega) ?_; conv => whnf)
      | (refine drawI (by decide +kernel) ?_; conv => whnf)
      | (refine drawR (by decide +kernel) ?_; conv => whnf)
      | (refine boxP rfl ?_; conv => whnf)
      | (refine appI _ rfl (by first | omega | (dsimp only; omega) | (simp only [List.length_cons, List.length_nil, List.length_append]; omega)) ?_; conv => whnf)
      | (refine rowSetI _ rfl ?_; conv => whnf)
      | (refine cmpT (by omega) ?_; conv => whnf)
      | (refine cmpF (by omega) ?_; conv => whnf)
      | (refine cmpI (fun _ => ?_) (fun _ => ?_) <;> conv => whnf))
  · refine ⟨i + 1, (Sub.by_ [(7, .old 7)] _ 400 rfl ⟨rowN_eq _ ?_, trivial⟩ (by repeat' (first | exact True.intro | exact rfl | (refine And.intro ?_ ?_) | ((conv => whnf); omega) | ((conv => whnf); simp only [List.length_append, List.length_cons, List.length_nil]; done) | ((conv => whnf); simp only [List.length_append, List.length_cons, List.length_nil]; omega)))), by omega, Nat.sub_lt_sub_left (by omega) (by omega)⟩
    rw [Int.toNat_natCast, List.set_append_right _ _ (by simp), List.length_replicate, Nat.sub_self, List.replicate_succ', List.append_assoc]
    congr 1
    rw [show k - i = (k - (i + 1)) + 1 by omega, List.replicate_succ]
    rfl
  · obtain rfl : i = k := by omega
    refine ⟨7, rfl, ?_⟩
    show some _ = _
    simp only [Nat.sub_self, List.replicate_zero, List.append_nil]

/-! ### ends: the closure that walks the shape -/
def memE (l : List Int) (n : Nat) (row : List Int) : List (Nat × Blk) :=
  [(0, .box 3 [.int .i64 (n : Int)]), (2, .box 27 [.fn 34 [.ptr 0 0, .pd [.sl 0 encI l], .ptr 2 0, .ptr 3 0]]), (3, .box 29 [.row 4 l.length 1]), (4, rowN row)]
def idE : LMap := [(0, .old 0), (2, .old 2), (3, .old 3), (4, .old 4)]
def walkR (l : List Int) (n : Nat) (row : List Int) : AV → Mem → Prop := fun u M => ∃ n' row', memR idE 400 M (memE l n' row') ∧ row'.length = l.length ∧ n' ≤ l.length ∧
  ((skipN 1 (l.drop n) = some (l.drop n') ∧ u = .bool true ∧ n < n' ∧ ∀ k : Nat, row'.getD k 0 = if n ≤ k ∧ k < n' then (endAt l k : Int) else row.getD k 0) ∨ (skipN 1 (l.drop n) = none ∧ u = .bool false))

theorem endAt_eq {l : List Int} {i n : Nat} (hn : n ≤ l.length) (h : skipN 1 (l.drop i) = some (l.drop n)) : endAt l i = n := by
  obtain ⟨h1, h2, h3⟩ := endAt_of h
  have := congrArg List.length h3
  simp only [List.length_drop] at this
  omega

theorem walk_none {l : List Int} {n : Nat} (h : ¬ n < l.length) : skipN 1 (l.drop n) = none := by
  rw [List.drop_eq_nil_of_le (by omega)]; rfl
theorem walk_bad {l : List Int} {n : Nat} (h : n < l.length) (h0 : l.getD n 0 ≠ 0) (h2 : l.getD n 0 ≠ 2) : skipN 1 (l.drop n) = none := by
  rw [drop_cons h, skipN_cons 0, if_neg h0, if_neg h2]
theorem walkInto {l : List Int} {n : Nat} (h : n < l.length) (h2 : l.getD n 0 = 0 ∨ l.getD n 0 = 2) : skipN 1 (l.drop n) = skipN (l.getD n 0).toNat (l.drop (n + 1)) := by
  rw [drop_cons h, skipN_cons 0]
  rcases h2 with e | e
  · rw [e]; rfl
  · rw [e]; rfl
theorem skipN_step {l : List Int} {a c n n2 : Nat} (h : skipN c (l.drop a) = some (l.drop n)) (h2 : skipN 1 (l.drop n) = some (l.drop n2)) : skipN (c + 1) (l.drop a) = some (l.drop n2) := by
  rw [skipN_add, h]; exact h2
theorem skipN_stop {l : List Int} {a c d n : Nat} (h : skipN c (l.drop a) = some (l.drop n)) (h2 : skipN 1 (l.drop n) = none) (hc : c < d) : skipN d (l.drop a) = none := by
  rw [show d = c + (1 + (d - c - 1)) by omega, skipN_add, h]
  show skipN _ _ = none
  rw [skipN_add, h2]; rfl

theorem walkF (l : List Int) (hl : l.length ≤ 1000) : ∀ (m n : Nat) (row : List Int), l.length - n = m → n ≤ l.length → row.length = l.length →
    Spec Try.prog 34 [.ptr 0 0, .pd [.sl 0 encI l], .ptr 2 0, .ptr 3 0] (Mem.ofL (memE l n row)) (walkR l n row) := by
  intro m
  induction m using Nat.strongRecOn with
  | _ m ih =>
    intro n row hm hn hr
    refine Spec.intro tt_ok mx_ok (memE l n row) Try.func34 rfl (by decide) ?_
    conv => whnf
    by_cases hlt : n < l.length
    · by_cases hv : l.getD n 0 = 0 ∨ l.getD n 0 = 2
      · have hw := walkInto hlt hv
        have hx : 0 ≤ l.getD n 0 ∧ l.getD n 0 ≤ 2 := by omega
        have hto : ((l.getD n 0).toNat : Int) = l.getD n 0 := by omega
        refine cmpF (by omega) ?_
        conv => whnf
        repeat' (first
            | (refine needI (by first | omega | (dsimp only; omega)) ?_; conv => whnf)
            | (refine arI trivial (by omega) ?_; conv => whnf)
            | (refine arU trivial (by omega) ?_; conv => whnf)
            | (refine arB trivial (by omega) ?_; conv => whnf)
            | (refine drawI (by decide +kernel) ?_; conv => whnf)
            | (refine drawR (by decide +kernel) ?_; conv => whnf)
            | (refine boxP rfl ?_; conv => whnf)
            | (refine appI _ rfl (by first | omega | (dsimp only; omega) | (simp only [List.length_cons, List.length_nil, List.length_append]; omega)) ?_; conv => whnf)
            | (refine rowSetI _ rfl ?_; conv => whnf)
            | (refine cmpT (by omega) ?_; conv => whnf)
            | (refine cmpF (by omega) ?_; conv => whnf)
            | (refine cmpI (fun _ => ?_) (fun _ => ?_) <;> conv => whnf))
        · rename_i h1 h2
          rw [Int.toNat_natCast] at h1 h2
          omega
        all_goals
          refine WPc.loop (fun x : Nat × Nat × List Int => x.1 ≤ (l.getD n 0).toNat ∧ n + 1 ≤ x.2.1 ∧ x.2.1 ≤ l.length ∧ x.2.2.length = l.length ∧ skipN x.1 (l.drop (n + 1)) = some (l.drop x.2.1) ∧ ∀ k : Nat, x.2.2.getD k 0 = if n + 1 ≤ k ∧ k < x.2.1 then (endAt l k : Int) else row.getD k 0)
            (fun x => ((.ptr 0 0) :: (.pd [.sl 0 encI l]) :: (.ptr 2 0) :: (.ptr 3 0) :: .top :: (.int .i64 (n : Int)) :: .top :: .top :: .top :: .top :: .top :: .top :: .top :: .top :: .top :: .top :: .top :: .top :: .top :: .top :: .top :: .top :: .top :: .top :: .top :: .top :: .top :: .top :: .top :: .top :: (.int .i64 (l.getD n 0)) :: (.int .i64 (x.1 : Int)) :: T 9)) (fun x => Mem.ofL (memE l x.2.1 x.2.2)) (fun x => (l.getD n 0).toNat - x.1) (0, n + 1, row) ⟨by dsimp only; omega, by dsimp only; omega, by dsimp only; omega, hr, skipN_zero _, fun k => by rw [if_neg (by dsimp only; omega)]⟩ (Sub.by_ idE _ 400 rfl (by repeat' (first | exact True.intro | exact rfl | (refine And.intro ?_ ?_) | ((conv => whnf); omega) | ((conv => whnf); simp only [List.length_append, List.length_cons, List.length_nil]; done) | ((conv => whnf); simp only [List.length_append, List.length_cons, List.length_nil]; omega))) (by repeat' (first | exact True.intro | exact rfl | (refine And.intro ?_ ?_) | ((conv => whnf); omega) | ((conv => whnf); simp only [List.length_append, List.length_cons, List.length_nil]; done) | ((conv => whnf); simp only [List.length_append, List.length_cons, List.length_nil]; omega)))) ?_
          rintro ⟨c, n1, row1⟩ ⟨hc, h1, h2, h3, h4, h5⟩
          dsimp only at hc h1 h2 h3 h4 h5 ⊢
          refine codeK_ok tt_ok mx_ok _ _ _ _ ?_
          conv => whnf
          refine cmpI (fun hcx => ?_) (fun hcx => ?_) <;> conv => whnf
          · refine Spec.call idE (memE l n1 row1) 400 rfl (by repeat' (first | exact True.intro | exact rfl | (refine And.intro ?_ ?_) | ((conv => whnf); omega) | ((conv => whnf); simp only [List.length_append, List.length_cons, List.length_nil]; done) | ((conv => whnf); simp only [List.length_append, List.length_cons, List.length_nil]; omega))) (by repeat' (first | exact True.intro | exact rfl | (refine And.intro ?_ ?_) | ((conv => whnf); omega) | ((conv => whnf); simp only [List.length_append, List.length_cons, List.length_nil]; done) | ((conv => whnf); simp only [List.length_append, List.length_cons, List.length_nil]; omega))) (ih (l.length - n1) (by omega) n1 row1 rfl h2 h3) ?_
            rintro u M' ⟨n2, row2, hm2, hl2, hn2, hh⟩
            rcases hh with ⟨e1, rfl, e2, e3⟩ | ⟨e1, rfl⟩
            · refine ⟨idE, memE l n2 row2, .bool true, rfl, hm2, rfl, ?_⟩
              conv => whnf
              repeat' (first
                  | (refine needI (by first | omega | (dsimp only; omega)) ?_; conv => whnf)
                  | (refine arI trivial (by omega) ?_; conv => whnf)
                  | (refine arU trivial (by omega) ?_; conv => whnf)
                  | (refine arB trivial (by omega) ?_; conv => whnf)
                  | (refine drawI (by decide +kernel) ?_; conv => whnf)
                  | (refine drawR (by decide +kernel) ?_; conv => whnf)
                  | (refine boxP rfl ?_; conv => whnf)
                  | (refine appI _ rfl (by first | omega | (dsimp only; omega) | (simp only [List.length_cons, List.length_nil, List.length_append]; omega)) ?_; conv => whnf)
                  | (refine rowSetI _ rfl ?_; conv => whnf)
                  | (refine cmpT (by omega) ?_; conv => whnf)
                  | (refine cmpF (by omega) ?_; conv => whnf)
                  | (refine cmpI (fun _ => ?_) (fun _ => ?_) <;> conv => whnf))
              refine ⟨(c + 1, n2, row2), (Sub.by_ idE _ 400 rfl (by repeat' (first | exact True.intro | exact rfl | (refine And.intro ?_ ?_) | ((conv => whnf); omega) | ((conv => whnf); simp only [List.length_append, List.length_cons, List.length_nil]; done) | ((conv => whnf); simp only [List.length_append, List.length_cons, List.length_nil]; omega))) (by repeat' (first | exact True.intro | exact rfl | (refine And.intro ?_ ?_) | ((conv => whnf); omega) | ((conv => whnf); simp only [List.length_append, List.length_cons, List.length_nil]; done) | ((conv => whnf); simp only [List.length_append, List.length_cons, List.length_nil]; omega)))), ⟨by dsimp only; omega, by dsimp only; omega, hn2, hl2, skipN_step h4 e1, fun k => ?_⟩, Nat.sub_lt_sub_left (by dsimp only; omega) (by dsimp only; omega)⟩
              dsimp only
              rw [e3 k, h5 k]
              by_cases ha : n1 ≤ k ∧ k < n2
              · rw [if_pos ha, if_pos (by omega)]
              · rw [if_neg ha]
                by_cases hb : n + 1 ≤ k ∧ k < n1
                · rw [if_pos hb, if_pos (by omega)]
                · rw [if_neg hb, if_neg (by omega)]
            · refine ⟨idE, memE l n2 row2, .bool false, rfl, hm2, rfl, ?_⟩
              conv => whnf
              refine ⟨n2, row2, (by repeat' (first | exact True.intro | exact rfl | (refine And.intro ?_ ?_) | ((conv => whnf); omega) | ((conv => whnf); simp only [List.length_append, List.length_cons, List.length_nil]; done) | ((conv => whnf); simp only [List.length_append, List.length_cons, List.length_nil]; omega))), hl2, hn2, .inr ⟨?_, rfl⟩⟩
              rw [hw]
              exact skipN_stop h4 e1 (by omega)
          · have hc2 : c = (l.getD n 0).toNat := by omega
            rw [hc2, ← hw] at h4
            have he := endAt_eq h2 h4
            repeat' (first
                | (refine needI (by first | omega | (dsimp only; omega)) ?_; conv => whnf)
                | (refine arI trivial (by omega) ?_; conv => whnf)
                | (refine arU trivial (by omega) ?_; conv => whnf)
                | (refine arB trivial (by omega) ?_; conv => whnf)
                | (refine drawI (by decide +kernel) ?_; conv => whnf)
                | (refine drawR (by decide +kernel) ?_; conv => whnf)
                | (refine boxP rfl ?_; conv => whnf)
                | (refine appI _ rfl (by first | omega | (dsimp only; omega) | (simp only [List.length_cons, List.length_nil, List.length_append]; omega)) ?_; conv => whnf)
                | (refine rowSetI _ rfl ?_; conv => whnf)
                | (refine cmpT (by omega) ?_; conv => whnf)
                | (refine cmpF (by omega) ?_; conv => whnf)
                | (refine cmpI (fun _ => ?_) (fun _ => ?_) <;> conv => whnf))
            refine ⟨n1, row1.set n n1, (by repeat' (first | exact True.intro | exact rfl | (refine And.intro ?_ ?_) | ((conv => whnf); omega) | ((conv => whnf); simp only [List.length_append, List.length_cons, List.length_nil]; done) | ((conv => whnf); simp only [List.length_append, List.length_cons, List.length_nil]; omega))), by rw [List.length_set, h3], h2, .inl ⟨h4, rfl, by omega, fun k => ?_⟩⟩
            rw [List.getD_eq_getElem?_getD, List.getElem?_set]
            by_cases hk : n = k
            · subst hk
              rw [if_pos rfl, if_pos (by omega), if_pos (by omega), he]
              rfl
            · rw [if_neg hk, ← List.getD_eq_getElem?_getD, h5 k]
              by_cases hb : n + 1 ≤ k ∧ k < n1
              · rw [if_pos hb, if_pos (by omega)]
              · rw [if_neg hb, if_neg (by omega)]
      · have hb := walk_bad hlt (fun h => hv (.inl h)) (fun h => hv (.inr h))
        repeat' (first
            | (refine needI (by first | omega | (dsimp only; omega)) ?_; conv => whnf)
            | (refine arI trivial (by omega) ?_; conv => whnf)
            | (refine arU trivial (by omega) ?_; conv => whnf)
            | (refine arB trivial (by omega) ?_; conv => whnf)
            | (refine drawI (by decide +kernel) ?_; conv => whnf)
            | (refine drawR (by decide +kernel) ?_; conv => whnf)
            | (refine boxP rfl ?_; conv => whnf)
            | (refine appI _ rfl (by first | omega | (dsimp only; omega) | (simp only [List.length_cons, List.length_nil, List.length_append]; omega)) ?_; conv => whnf)
            | (refine rowSetI _ rfl ?_; conv => whnf)
            | (refine cmpT (by omega) ?_; conv => whnf)
            | (refine cmpF (by omega) ?_; conv => whnf)
            | (refine cmpI (fun _ => ?_) (fun _ => ?_) <;> conv => whnf))
        · exact ⟨n, row, (by repeat' (first | exact True.intro | exact rfl | (refine And.intro ?_ ?_) | ((conv => whnf); omega) | ((conv => whnf); simp only [List.length_append, List.length_cons, List.length_nil]; done) | ((conv => whnf); simp only [List.length_append, List.length_cons, List.length_nil]; omega))), hr, hn, .inr ⟨hb, rfl⟩⟩
        all_goals
          exfalso
          simp only [Int.toNat_natCast] at *
          omega
    · have hb := walk_none hlt
      repeat' (first
          | (refine needI (by first | omega | (dsimp only; omega)) ?_; conv => whnf)
          | (refine arI trivial (by omega) ?_; conv => whnf)
          | (refine arU trivial (by omega) ?_; conv => whnf)
          | (refine arB trivial (by omega) ?_; conv => whnf)
          | (refine drawI (by decide +kernel) ?_; conv => whnf)
          | (refine drawR (by decide +kernel) ?_; conv => whnf)
          | (refine boxP rfl ?_; conv => whnf)
          | (refine appI _ rfl (by first | omega | (dsimp only; omega) | (simp only [List.length_cons, List.length_nil, List.length_append]; omega)) ?_; conv => whnf)
          | (refine rowSetI _ rfl ?_; conv => whnf)
          | (refine cmpT (by omega) ?_; conv => whnf)
          | (refine cmpF (by omega) ?_; conv => whnf)
          | (refine cmpI (fun _ => ?_) (fun _ => ?_) <;> conv => whnf))
      exact ⟨n, row, (by repeat' (first | exact True.intro | exact rfl | (refine And.intro ?_ ?_) | ((conv => whnf); omega) | ((conv => whnf); simp only [List.length_append, List.length_cons, List.length_nil]; done) | ((conv => whnf); simp only [List.length_append, List.length_cons, List.length_nil]; omega))), hr, hn, .inr ⟨hb, rfl⟩⟩
end Go.Proofs.Ytihligeggkpolaa
