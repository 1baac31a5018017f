import Derived.Test.YtnjggjhkfncnlaaGreatDoorG1
import Derived.Test.YtnjggjhkfncnlaaGreatDoorF1
import Derived.Test.YtnjggjhkfncnlaaGreatDoorG4
set_option linter.unusedVariables false
set_option linter.unusedSimpArgs false
namespace Go.Proofs.YtnjggjhkfncnlaaGreatDoor
def skipN : Nat → List Int → Option (List Int)
 | 0, l=>some l
 | _ + 1, []=>none
 | n + 1, x :: xs=>if x = 0 then skipN n xs else if x = 2 then skipN (n + 2) xs else none
theorem skipN_zero (l : List Int) : skipN 0 l = some l:=by cases l <;> rfl
theorem skipN_nil (n : Nat) : skipN (n + 1) [] = none:=rfl
theorem skipN_cons (n : Nat) (x : Int) (xs : List Int) : skipN (n + 1) (x :: xs) = if x = 0 then skipN n xs else if x = 2 then skipN (n + 2) xs else none:=rfl
theorem skipN_add : ∀ (l : List Int) (a b : Nat), skipN (a + b) l = (skipN a l).bind (skipN b)
 | l, 0, b=>by rw [Nat.zero_add, skipN_zero]; rfl
 | [], a + 1, b=>by rw [show a + 1 + b = (a + b) + 1 by omega, skipN_nil, skipN_nil]; rfl
 | x :: xs, a + 1, b=>by
  rw [show a + 1 + b = (a + b) + 1 by omega, skipN_cons, skipN_cons]
  split
  ·exact skipN_add xs a b
  ·split
   ·rw [show a + b + 2 = (a + 2) + b by omega]; exact skipN_add xs (a + 2) b
   ·rfl
theorem skipN_drop : ∀ (l : List Int) (n : Nat) (r : List Int), skipN n l = some r → ∃ k, n ≤ k ∧ k ≤ l.length ∧ r = l.drop k
 | l, 0, r, h=>by rw [skipN_zero] at h; cases h; exact ⟨0, by omega, by omega, by simp⟩
 | [], n + 1, r, h=>by rw [skipN_nil] at h; cases h
 | x :: xs, n + 1, r, h=>by
  rw [skipN_cons] at h
  split at h
  ·obtain ⟨k, h1, h2, h3⟩:=skipN_drop xs n r h
   exact ⟨k + 1, by omega, by simp; omega, by simpa using h3⟩
  ·split at h
   ·obtain ⟨k, h1, h2, h3⟩:=skipN_drop xs (n + 2) r h
    exact ⟨k + 1, by omega, by simp; omega, by simpa using h3⟩
   ·cases h
def endAt (l : List Int) (i : Nat) : Nat:=match skipN 1 (l.drop i) with
 | some r=>l.length - r.length
 | none=>0
theorem endAt_of {l r : List Int} {i : Nat} (h : skipN 1 (l.drop i) = some r) : i < endAt l i ∧ endAt l i ≤ l.length ∧ r = l.drop (endAt l i):=by
 obtain ⟨k, h1, h2, h3⟩:=skipN_drop _ _ _ h
 have e : endAt l i = l.length - r.length:=by unfold endAt; rw [h]
 rw [List.drop_drop] at h3
 have hl : (l.drop i).length = l.length - i:=List.length_drop
 have hr : r.length = l.length - (i + k):=by rw [h3, List.length_drop]
 have e2 : endAt l i = i + k:=by omega
 exact ⟨by omega, by omega, by rw [e2, h3]⟩
theorem drop_cons {l : List Int} {i : Nat} (h : i < l.length) : l.drop i = l.getD i 0 :: l.drop (i + 1):=by
 rw [List.drop_eq_getElem_cons h, gD, gL h]
 rfl
theorem skipN_inner : ∀ (l : List Int) (n : Nat) (r : List Int) (k : Nat), skipN n l = some r → k + r.length < l.length → ∃ r', skipN 1 (l.drop k) = some r' ∧ r.length ≤ r'.length
 | l, 0, r, k, h, hk=>by rw [skipN_zero] at h; cases h; omega
 | [], n + 1, r, k, h, hk=>by rw [skipN_nil] at h; cases h
 | x :: xs, n + 1, r, 0, h, hk=>by
  rw [show n + 1 = 1 + n by omega, skipN_add] at h
  obtain ⟨m, hm, hr⟩:=Option.bind_eq_some_iff.1 h
  obtain ⟨j, _, _, hj⟩:=skipN_drop _ _ _ hr
  exact ⟨m, hm, by rw [hj]; simp⟩
 | x :: xs, n + 1, r, k + 1, h, hk=>by
  rw [skipN_cons] at h
  simp only [List.length_cons] at hk
  split at h
  ·exact skipN_inner xs n r k h (by omega)
  ·split at h
   ·exact skipN_inner xs (n + 2) r k h (by omega)
   ·cases h
def shp (l : List Int) : Prop:=skipN 1 l = some []
instance (l : List Int) : Decidable (shp l):=inferInstanceAs (Decidable (skipN 1 l = some []))
theorem shp.at {l : List Int} (h : shp l) {i : Nat} (hi : i < l.length) : skipN 1 (l.drop i) = some (l.drop (endAt l i)) ∧ i < endAt l i ∧ endAt l i ≤ l.length:=by
 obtain ⟨r, hr, _⟩:=skipN_inner l 1 [] i h (by simpa using hi)
 obtain ⟨h1, h2, h3⟩:=endAt_of hr
 exact ⟨by rw [hr, h3], h1, h2⟩
theorem shp.two {l : List Int} (h : shp l) {i : Nat} (hi : i < l.length) (h2 : l.getD i 0 = 2) : i + 1 < l.length ∧ i + 1 < endAt l (i + 1) ∧ endAt l (i + 1) < l.length ∧ endAt l (endAt l (i + 1)) = endAt l i ∧ endAt l (i + 1) < endAt l i:=by
 obtain ⟨e, h3, h4⟩:=h.at hi
 rw [drop_cons hi, skipN_cons 0, h2] at e
 simp only [show (2:Int) ≠ 0 by decide, if_false, if_true] at e
 rw [show 0 + 2 = 1 + 1 from rfl, skipN_add _ 1 1] at e
 obtain ⟨m, hm, hr⟩:=Option.bind_eq_some_iff.1 e
 obtain ⟨k1, k2, k3⟩:=endAt_of hm
 have hne : endAt l (i + 1) < l.length:=by
  by_cases hh : endAt l (i + 1) < l.length
  ·exact hh
  ·rw [List.drop_eq_nil_of_le (by omega)] at k3
   subst k3; rw [skipN_nil] at hr; cases hr
 rw [k3] at hr
 obtain ⟨j1, j2, j3⟩:=endAt_of hr
 have hlen:=congrArg List.length j3
 simp only [List.length_drop] at hlen
 have : endAt l (endAt l (i + 1)) = endAt l i:=by omega
 exact ⟨by omega, k1, hne, this, by omega⟩
theorem shp.zeroTwo {l : List Int} (h : shp l) {i : Nat} (hi : i < l.length) : l.getD i 0 = 0 ∨ l.getD i 0 = 2:=by
 obtain ⟨e, h3, h4⟩:=h.at hi
 rw [drop_cons hi, skipN_cons 0] at e
 split at e
 ·exact .inl ‹_›
 ·split at e
  ·exact .inr ‹_›
  ·cases e
theorem shp.nest {l : List Int} (h : shp l) {i k : Nat} (hi : i ≤ k) (hk : k < endAt l i) (hil : i < l.length) : endAt l k ≤ endAt l i:=by
 obtain ⟨e, h3, h4⟩:=h.at hil
 obtain ⟨r', hr', hle⟩:=skipN_inner _ 1 _ (k - i) e (by simp only [List.length_drop]; omega)
 rw [List.drop_drop, show i + (k - i) = k by omega] at hr'
 obtain ⟨j1, j2, j3⟩:=endAt_of hr'
 rw [j3] at hle
 simp only [List.length_drop] at hle
 omega
def isPar (l : List Int) (j k : Nat) : Bool:=decide (l.getD k 0 = 2) && (decide (k + 1 = j) || decide (endAt l (k + 1) = j))
def parN (l : List Int) (j : Nat) : Nat → Int
 | 0=>-1
 | n + 1=>if isPar l j n then (n : Int) else parN l j n
theorem parN_succ (l : List Int) (j n : Nat) : parN l j (n + 1) = if isPar l j n then (n : Int) else parN l j n:=rfl
def firstT (l : List Int) (i : Nat) : Int:=if l.getD i 0 = 2 then ((i + 1 : Nat) : Int) else -1
def secondT (l : List Int) (i : Nat) : Int:=if l.getD i 0 = 2 then (endAt l (i + 1) : Int) else -1
def parentT (l : List Int) (i : Nat) : Int:=parN l i i
theorem parN_cases (l : List Int) (j n : Nat) : parN l j n = -1 ∨ ∃ k, k < n ∧ parN l j n = k ∧ isPar l j k = true:=by
 induction n with
 | zero=>exact .inl rfl
 | succ n ih =>
  unfold parN
  split
  ·exact .inr ⟨n, by omega, rfl, ‹_›⟩
  ·rcases ih with h | ⟨k, h1, h2, h3⟩
   ·exact .inl h
   ·exact .inr ⟨k, by omega, h2, h3⟩
theorem parN_eq {l : List Int} {j n k : Nat} (hk : k < n) (h : isPar l j k = true) (hu : ∀ m, k < m → m < n → isPar l j m = false) : parN l j n = k:=by
 induction n with
 | zero=>omega
 | succ n ih =>
  unfold parN
  by_cases e : k = n
  ·subst e; rw [if_pos h]
  ·rw [if_neg (by rw [hu n (by omega) (by omega)]; simp)]
   exact ih (by omega) fun m h1 h2=>hu m h1 (by omega)
theorem parN_more {l : List Int} {j n m : Nat} (hnm : n ≤ m) (hu : ∀ k, n ≤ k → k < m → isPar l j k = false) : parN l j m = parN l j n:=by
 induction m with
 | zero=>rw [show n = 0 by omega]
 | succ m ih =>
  by_cases e : n = m + 1
  ·rw [e]
  ·rw [parN_succ, if_neg (by rw [hu m (by omega) (by omega)]; simp)]
   exact ih (by omega) fun k h1 h2=>hu k h1 (by omega)
theorem isPar_lt {l : List Int} (h : shp l) {j k : Nat} (hk : k < l.length) (hp : isPar l j k = true) : k < j ∧ j < l.length:=by
 simp only [isPar, Bool.and_eq_true, Bool.or_eq_true, decide_eq_true_eq] at hp
 obtain ⟨h2, hp⟩:=hp
 obtain ⟨a, b, c, d, e⟩:=h.two hk h2
 omega
theorem parN_all {l : List Int} (h : shp l) {j : Nat} (hj : j < l.length) : parN l j l.length = parentT l j:=by
 unfold parentT
 refine parN_more (by omega) fun k h1 h2=>?_
 cases e : isPar l j k
 ·rfl
 ·have:=isPar_lt h h2 e; omega
theorem parentT_first {l : List Int} (h : shp l) {i : Nat} (hi : i < l.length) (h2 : l.getD i 0 = 2) : parentT l (i + 1) = i:=by
 unfold parentT
 exact parN_eq (by omega) (by simp [isPar, h2, -List.getD_eq_getElem?_getD]) fun m h1 h3=>by omega
theorem parentT_second {l : List Int} (h : shp l) {i : Nat} (hi : i < l.length) (h2 : l.getD i 0 = 2) : parentT l (endAt l (i + 1)) = i:=by
 obtain ⟨a, b, c, d, e⟩:=h.two hi h2
 unfold parentT
 refine parN_eq (by omega) (by simp [isPar, h2, -List.getD_eq_getElem?_getD]) fun m h1 h3=>?_
 cases hp : isPar l (endAt l (i + 1)) m
 ·rfl
 ·simp only [isPar, Bool.and_eq_true, Bool.or_eq_true, decide_eq_true_eq] at hp
  obtain ⟨hm2, hp⟩:=hp
  obtain ⟨a', b', c', d', e'⟩:=h.two (i:=m) (by omega) hm2
  have:=h.nest (i:=i + 1) (k:=m) (by omega) h3 (by omega)
  omega
set_option maxRecDepth 100000
def rowN (l : List Int) : Blk:=.row 3 0 encI l
theorem rowN_eq {l l' : List Int} (lm : LMap) (h : l = l') : blkR lm 400 (some (rowN l)) (rowN l'):=by subst h; rfl
theorem noneF (k : Nat) (hn : k ≤ 1000) : Spec Tryz.prog 230 [.int .i64 (k : Int)] (Mem.ofL []) (fun u M=>∃ ℓ0, u = .row ℓ0 k 1 ∧ M ℓ0 = some (rowN (List.replicate k (-1)))):=by
 refine Spec.intro tt_ok mx_ok [] Tryz.func230 rfl (by decide) ?_
 conv=>whnf
 rw [if_neg (by omega)]
 refine mkI 0 encI 0 rfl (by dsimp only; omega) ?_
 rw [tN]
 conv=>whnf
 repeat' first | (refine at_ ?_; conv=>whnf) | (refine cmpI (fun _=>?_) (fun _=>?_) <;> conv=>whnf)
 refine WPc.loop (fun i : Nat=>i ≤ k) (fun i=>(.top :: .top :: .top :: (.row 7 k 1) :: .top :: .top :: .top :: .top :: .top :: (.int .i64 (k : Int)) :: (.int .i64 (i : Int)) :: T 7)) (fun i=>Mem.ofL [(7, rowN (List.replicate i (-1) ++ List.replicate (k - i) 0))]) (fun i=>k - i) 0 (by omega) (Sub.by_ [(7, .old 7)] _ 400 rfl ⟨rowN_eq _ (by simp), trivial⟩ (auto_)) ?_
 intro i hi
 refine codeK_ok tt_ok mx_ok _ _ _ _ ?_
 conv=>whnf
 repeat' first | (refine at_ ?_; conv=>whnf) | (refine cmpI (fun _=>?_) (fun _=>?_) <;> conv=>whnf)
 ·refine ⟨i + 1, (Sub.by_ [(7, .old 7)] _ 400 rfl ⟨rowN_eq _ ?_, trivial⟩ (auto_)), by omega, Nat.sub_lt_sub_left (by omega) (by omega)⟩
  rw [tN, List.set_append_right _ _ (by simp), List.length_replicate, Nat.sub_self, List.replicate_succ', List.append_assoc]
  congr 1
  rw [show k - i = (k - (i + 1)) + 1 by omega, List.replicate_succ]
  rfl
 ·obtain rfl : i = k:=by omega
  refine ⟨7, rfl, ?_⟩
  show some _ = _
  simp only [Nat.sub_self, List.replicate_zero, List.append_nil]
def memE (l : List Int) (n : Nat) (row : List Int) : List (Nat × Blk) :=
 [(0, .box 3 [.int .i64 (n : Int)]), (2, .box 44 [.fn 195 [.ptr 0 0, .pd [.sl 0 encI l], .ptr 2 0, .ptr 3 0]]), (3, .box 24 [.row 4 l.length 1]), (4, rowN row)]
def idE : LMap:=[(0, .old 0), (2, .old 2), (3, .old 3), (4, .old 4)]
def walkR (l : List Int) (n : Nat) (row : List Int) : AV → Mem → Prop:=fun u M=>∃ n' row', memR idE 400 M (memE l n' row') ∧ row'.length = l.length ∧ n' ≤ l.length ∧
 ((skipN 1 (l.drop n) = some (l.drop n') ∧ u = .bool true ∧ n < n' ∧ ∀ k : Nat, row'.getD k 0 = if n ≤ k ∧ k < n' then (endAt l k : Int) else row.getD k 0) ∨ (skipN 1 (l.drop n) = none ∧ u = .bool false))
theorem endAt_eq {l : List Int} {i n : Nat} (hn : n ≤ l.length) (h : skipN 1 (l.drop i) = some (l.drop n)) : endAt l i = n:=by
 obtain ⟨h1, h2, h3⟩:=endAt_of h
 have:=congrArg List.length h3
 simp only [List.length_drop] at this
 omega
theorem walk_none {l : List Int} {n : Nat} (h : ¬ n < l.length) : skipN 1 (l.drop n) = none:=by
 rw [List.drop_eq_nil_of_le (by omega)]; rfl
theorem walk_bad {l : List Int} {n : Nat} (h : n < l.length) (h0 : l.getD n 0 ≠ 0) (h2 : l.getD n 0 ≠ 2) : skipN 1 (l.drop n) = none:=by
 rw [drop_cons h, skipN_cons 0, if_neg h0, if_neg h2]
theorem walkInto {l : List Int} {n : Nat} (h : n < l.length) (h2 : l.getD n 0 = 0 ∨ l.getD n 0 = 2) : skipN 1 (l.drop n) = skipN (l.getD n 0).toNat (l.drop (n + 1)):=by
 rw [drop_cons h, skipN_cons 0]
 rcases h2 with e | e
 ·rw [e]; rfl
 ·rw [e]; rfl
theorem skipN_step {l : List Int} {a c n n2 : Nat} (h : skipN c (l.drop a) = some (l.drop n)) (h2 : skipN 1 (l.drop n) = some (l.drop n2)) : skipN (c + 1) (l.drop a) = some (l.drop n2):=by
 rw [skipN_add, h]; exact h2
theorem skipN_stop {l : List Int} {a c d n : Nat} (h : skipN c (l.drop a) = some (l.drop n)) (h2 : skipN 1 (l.drop n) = none) (hc : c < d) : skipN d (l.drop a) = none:=by
 rw [show d = c + (1 + (d - c - 1)) by omega, skipN_add, h]
 show skipN _ _ = none
 rw [skipN_add, h2]; rfl
theorem walkF (l : List Int) (hl : l.length ≤ 1000) : ∀ (m n : Nat) (row : List Int), l.length - n = m → n ≤ l.length → row.length = l.length →
  Spec Tryz.prog 195 [.ptr 0 0, .pd [.sl 0 encI l], .ptr 2 0, .ptr 3 0] (Mem.ofL (memE l n row)) (walkR l n row):=by
 intro m
 induction m using Nat.strongRecOn with
 | _ m ih =>
  intro n row hm hn hr
  refine Spec.intro tt_ok mx_ok (memE l n row) Tryz.func195 rfl (by decide) ?_
  conv=>whnf
  by_cases hlt : n < l.length
  ·by_cases hv : l.getD n 0 = 0 ∨ l.getD n 0 = 2
   ·have hw:=walkInto hlt hv
    have hx : 0 ≤ l.getD n 0 ∧ l.getD n 0 ≤ 2:=by omega
    have hto : ((l.getD n 0).toNat : Int) = l.getD n 0:=by omega
    refine fI ?_
    conv=>whnf
    repeat' first | (refine at_ ?_; conv=>whnf) | (refine cmpI (fun _=>?_) (fun _=>?_) <;> conv=>whnf)
    ·rename_i h1 h2
     rw [tN] at h1 h2
     omega
    all_goals
     refine WPc.loop (fun x : Nat × Nat × List Int=>x.1 ≤ (l.getD n 0).toNat ∧ n + 1 ≤ x.2.1 ∧ x.2.1 ≤ l.length ∧ x.2.2.length = l.length ∧ skipN x.1 (l.drop (n + 1)) = some (l.drop x.2.1) ∧ ∀ k : Nat, x.2.2.getD k 0 = if n + 1 ≤ k ∧ k < x.2.1 then (endAt l k : Int) else row.getD k 0)
      (fun x=>((.ptr 0 0) :: (.pd [.sl 0 encI l]) :: (.ptr 2 0) :: (.ptr 3 0) :: .top :: (.int .i64 (n : Int)) :: .top :: .top :: .top :: .top :: .top :: .top :: .top :: .top :: .top :: .top :: .top :: .top :: .top :: .top :: .top :: .top :: .top :: .top :: .top :: .top :: .top :: .top :: .top :: .top :: (.int .i64 (l.getD n 0)) :: (.int .i64 (x.1 : Int)) :: T 9)) (fun x=>Mem.ofL (memE l x.2.1 x.2.2)) (fun x=>(l.getD n 0).toNat - x.1) (0, n + 1, row) ⟨by dsimp only; omega, by dsimp only; omega, by dsimp only; omega, hr, skipN_zero _, fun k=>by rw [if_neg (by dsimp only; omega)]⟩ (Sub.by_ idE _ 400 rfl (auto_) (auto_)) ?_
     rintro ⟨c, n1, row1⟩ ⟨hc, h1, h2, h3, h4, h5⟩
     dsimp only at hc h1 h2 h3 h4 h5 ⊢
     refine codeK_ok tt_ok mx_ok _ _ _ _ ?_
     conv=>whnf
     refine cmpI (fun hcx=>?_) (fun hcx=>?_) <;> conv=>whnf
     ·refine Spec.call idE (memE l n1 row1) 400 rfl (auto_) (auto_) (ih (l.length - n1) (by omega) n1 row1 rfl h2 h3) ?_
      rintro u M' ⟨n2, row2, hm2, hl2, hn2, hh⟩
      rcases hh with ⟨e1, rfl, e2, e3⟩ | ⟨e1, rfl⟩
      ·refine ⟨idE, memE l n2 row2, .bool true, rfl, hm2, rfl, ?_⟩
       conv=>whnf
       repeat' first | (refine at_ ?_; conv=>whnf) | (refine cmpI (fun _=>?_) (fun _=>?_) <;> conv=>whnf)
       refine ⟨(c + 1, n2, row2), (Sub.by_ idE _ 400 rfl (auto_) (auto_)), ⟨by dsimp only; omega, by dsimp only; omega, hn2, hl2, skipN_step h4 e1, fun k=>?_⟩, Nat.sub_lt_sub_left (by dsimp only; omega) (by dsimp only; omega)⟩
       dsimp only
       rw [e3 k, h5 k]
       by_cases ha : n1 ≤ k ∧ k < n2
       ·rw [if_pos ha, if_pos (by omega)]
       ·rw [if_neg ha]
        by_cases hb : n + 1 ≤ k ∧ k < n1
        ·rw [if_pos hb, if_pos (by omega)]
        ·rw [if_neg hb, if_neg (by omega)]
      ·refine ⟨idE, memE l n2 row2, .bool false, rfl, hm2, rfl, ?_⟩
       conv=>whnf
       refine ⟨n2, row2, (auto_), hl2, hn2, .inr ⟨?_, rfl⟩⟩
       rw [hw]
       exact skipN_stop h4 e1 (by omega)
     ·have hc2 : c = (l.getD n 0).toNat:=by omega
      rw [hc2, ← hw] at h4
      have he:=endAt_eq h2 h4
      repeat' first | (refine at_ ?_; conv=>whnf) | (refine cmpI (fun _=>?_) (fun _=>?_) <;> conv=>whnf)
      refine ⟨n1, row1.set n n1, (auto_), by rw [List.length_set, h3], h2, .inl ⟨h4, rfl, by omega, fun k=>?_⟩⟩
      rw [gD, List.getElem?_set]
      by_cases hk : n = k
      ·subst hk
       rw [if_pos rfl, if_pos (by omega), if_pos (by omega), he]
       rfl
      ·rw [if_neg hk, ← gD, h5 k]
       by_cases hb : n + 1 ≤ k ∧ k < n1
       ·rw [if_pos hb, if_pos (by omega)]
       ·rw [if_neg hb, if_neg (by omega)]
   ·have hb:=walk_bad hlt (fun h=>hv (.inl h)) (fun h=>hv (.inr h))
    repeat' first | (refine at_ ?_; conv=>whnf) | (refine cmpI (fun _=>?_) (fun _=>?_) <;> conv=>whnf)
    ·exact ⟨n, row, (auto_), hr, hn, .inr ⟨hb, rfl⟩⟩
    all_goals
     exfalso
     simp only [tN] at *
     omega
  ·have hb:=walk_none hlt
   repeat' first | (refine at_ ?_; conv=>whnf) | (refine cmpI (fun _=>?_) (fun _=>?_) <;> conv=>whnf)
   exact ⟨n, row, (auto_), hr, hn, .inr ⟨hb, rfl⟩⟩
set_option maxRecDepth 100000
theorem getD_set (l : List Int) (i k : Nat) (v : Int) : (l.set i v).getD k 0 = if i = k ∧ i < l.length then v else l.getD k 0:=by
 rw [gD, List.getElem?_set]
 by_cases h : i = k
 ·subst h
  by_cases h2 : i < l.length
  ·simp [h2]
  ·simp [h2, gD]
 ·simp [h, gD]
theorem list_of {l : List Int} {n : Nat} (hl : l.length = n) {g : Nat → Int} (h : ∀ k, k < n → l.getD k 0 = g k) : l = (List.range n).map g:=by
 apply List.ext_getElem
 ·simp [hl]
 ·intro i h1 h2
  have:=h i (by omega)
  rw [gD, gL h1] at this
  simpa using this
theorem getD_rep (n k : Nat) (v : Int) (h : k < n) : (List.replicate n v).getD k 0 = v:=by
 simp [gD, List.getElem?_replicate, h]
theorem getD_map_range (n k : Nat) (g : Nat → Int) (h : k < n) : ((List.range n).map g).getD k 0 = g k:=by
 simp [gD, h]
instance (l : List Int) : Decidable (shp l):=inferInstanceAs (Decidable (skipN 1 l = some []))
def endsL (l : List Int) : List Int:=(List.range l.length).map fun i=>(endAt l i : Int)
theorem shp_pos {l : List Int} (h : shp l) : 0 < l.length:=by
 cases l with
 | nil=>cases h
 | cons x l=>simp
def walkQ (l : List Int) (n : Nat) (row : List Int) : AV → Mem → Prop:=fun u M=>∃ n' row', M = Mem.ofL (memE l n' row') ∧ row'.length = l.length ∧ n' ≤ l.length ∧
 ((skipN 1 (l.drop n) = some (l.drop n') ∧ u = .bool true ∧ n < n' ∧ ∀ k : Nat, row'.getD k 0 = if n ≤ k ∧ k < n' then (endAt l k : Int) else row.getD k 0) ∨ (skipN 1 (l.drop n) = none ∧ u = .bool false))
theorem walkG (l : List Int) (hl : l.length ≤ 1000) (n : Nat) (row : List Int) (hn : n ≤ l.length) (hr : row.length = l.length) :
  Spec Tryz.prog 195 [.ptr 0 0, .pd [.sl 0 encI l], .ptr 2 0, .ptr 3 0] (Mem.ofL (memE l n row)) (walkQ l n row):=by
 refine Spec.norm 400 (walkF l hl _ n row rfl hn hr) ?_
 rintro u M' ⟨n2, row2, hm2, hl2, hn2, hh⟩
 refine ⟨memE l n2 row2, u, rfl, hm2, ?_, n2, row2, rfl, hl2, hn2, hh⟩
 rcases hh with ⟨_, rfl, _⟩ | ⟨_, rfl⟩ <;> rfl
theorem endsF (l : List Int) (hl : l.length ≤ 1000) : PSpec Tryz.prog 120 [.sl 0 encI l] (fun u=>u = if shp l then .sl 0 encI (endsL l) else .nilsl):=by
 refine PSpec.intro tt_ok mx_ok Tryz.func120 rfl (by decide) ?_; (conv=>whnf)
 refine boxP rfl ?_
 conv=>whnf
 refine mkI 0 encI 0 rfl (by dsimp only; omega) ?_
 rw [tN]
 conv=>whnf
 repeat' first | (refine at_ ?_; conv=>whnf) | (refine cmpI (fun _=>?_) (fun _=>?_) <;> conv=>whnf)
 refine Spec.call [(0, .old 4), (2, .old 5), (3, .old 3), (4, .old 8)] (memE l 0 (List.replicate l.length 0)) 400 rfl (auto_) (auto_) (walkG l hl 0 (List.replicate l.length 0) (by omega) (by simp)) ?_
 rintro u M' ⟨n2, row2, rfl, hl2, hn2, hh⟩
 rcases hh with ⟨h1, rfl, h2, h3⟩ | ⟨h1, rfl⟩
 ·refine ⟨[(4, .old 0), (5, .old 2), (3, .old 3), (8, .old 4)], [(4, .box 3 [.int .i64 (n2 : Int)]), (5, .box 44 [.fn 195 [.ptr 4 0, .pd [.sl 0 encI l], .ptr 5 0, .ptr 3 0]]), (3, .box 24 [.row 8 l.length 1]), (8, rowN row2)], .bool true, rfl, (auto_), rfl, ?_⟩
  conv=>whnf
  rw [List.drop_zero] at h1
  repeat' first | (refine at_ ?_; conv=>whnf) | (refine cmpI (fun _=>?_) (fun _=>?_) <;> conv=>whnf)
  ·rename_i hne
   rw [if_neg]
   ·exact ⟨rfl, rfl⟩
   ·intro hs
    rw [shp, h1, Option.some.injEq] at hs
    have:=congrArg List.length hs
    simp at this
    omega
  ·rename_i hne
   obtain rfl : n2 = l.length:=by omega
   rw [List.drop_length] at h1
   rw [if_pos (show shp l from h1)]
   refine ⟨sl_eq (list_of hl2 fun k hk=>?_), rfl⟩
   rw [h3 k, if_pos (by omega)]
 ·refine ⟨[(4, .old 0), (5, .old 2), (3, .old 3), (8, .old 4)], [(4, .box 3 [.int .i64 (n2 : Int)]), (5, .box 44 [.fn 195 [.ptr 4 0, .pd [.sl 0 encI l], .ptr 5 0, .ptr 3 0]]), (3, .box 24 [.row 8 l.length 1]), (8, rowN row2)], .bool false, rfl, (auto_), rfl, ?_⟩
  conv=>whnf
  rw [List.drop_zero] at h1
  repeat' first | (refine at_ ?_; conv=>whnf) | (refine cmpI (fun _=>?_) (fun _=>?_) <;> conv=>whnf)
  rw [if_neg (by rw [shp, h1]; intro h; cases h)]
  exact ⟨rfl, rfl⟩
def lkB (t : Int) (l : List Int) (n : Nat) : Bool:=decide (t = 4 → shp l ∧ l.length = n)
def nbF (t : Int) (l : List Int) (n i : Nat) : Int:=if t = 2 then (i : Int) - 1 else if t = 3 then (if i = 0 then (n : Int) - 1 else (i : Int) - 1) else if t = 4 ∧ lkB t l n = true then firstT l i else -1
def nbS (t : Int) (l : List Int) (n i : Nat) : Int:=if t = 2 then (if i + 1 = n then -1 else (i : Int) + 1) else if t = 3 then (if i + 1 = n then 0 else (i : Int) + 1) else if t = 4 ∧ lkB t l n = true then secondT l i else -1
def nbP (t : Int) (l : List Int) (n i : Nat) : Int:=if t = 4 ∧ lkB t l n = true then parentT l i else -1
def linkA (t : Int) (l : List Int) (n : Nat) : AV:=.agg [.sl 0 encI ((List.range n).map (nbF t l n)), .sl 0 encI ((List.range n).map (nbS t l n)), .sl 0 encI ((List.range n).map (nbP t l n))]
theorem linkA_eq {t : Int} {l : List Int} {n : Nat} {f s p : List Int} {b : Bool} (hf : f.length = n) (hs : s.length = n) (hp : p.length = n) (h : ∀ k, k < n → f.getD k 0 = nbF t l n k ∧ s.getD k 0 = nbS t l n k ∧ p.getD k 0 = nbP t l n k) (hb : b = lkB t l n) :
  AV.tup [.agg [.sl 0 encI f, .sl 0 encI s, .sl 0 encI p], .bool b] = .tup [linkA t l n, .bool (lkB t l n)]:=by
 rw [hb, linkA, list_of hf fun k hk=>(h k hk).1, list_of hs fun k hk=>(h k hk).2.1, list_of hp fun k hk=>(h k hk).2.2]
def memK (n : Nat) (f s p : List Int) : List (Nat × Blk):=[(6, .box 180 [.nilsl, .nilsl, .nilsl]), (8, .box 180 [.row 14 n 1, .row 16 n 1, .row 18 n 1]), (14, rowN f), (16, rowN s), (18, rowN p)]
theorem linkF (t : Int) (l : List Int) (n : Nat) (hl : l.length ≤ 1000) (hn : n ≤ 1000) : PSpec Tryz.prog 196 [.int .i64 t, .sl 0 encI l, .int .i64 (n : Int)] (fun u=>u = .tup [linkA t l n, .bool (lkB t l n)]):=by
 refine PSpec.intro tt_ok mx_ok Tryz.func196 rfl (by decide) ?_; (conv=>whnf)
 refine Spec.fresh 14 (noneF n hn) rfl (auto_) ?_
 conv=>whnf
 refine Spec.fresh 16 (noneF n hn) rfl (auto_) ?_
 conv=>whnf
 refine Spec.fresh 18 (noneF n hn) rfl (auto_) ?_
 conv=>whnf
 by_cases h23 : t = 2 ∨ t = 3
 ·repeat' first | (refine at_ ?_; conv=>whnf) | (refine cmpI (fun _=>?_) (fun _=>?_) <;> conv=>whnf)
  all_goals
   refine WPc.loopF tt_ok mx_ok (fun ((i, f, s) : Nat × List Int × List Int)=>i ≤ n ∧ f.length = n ∧ s.length = n ∧ ∀ k, k < n → f.getD k 0 = (if k < i then (k : Int) - 1 else -1) ∧ s.getD k 0 = if k < i then (k : Int) + 1 else -1) (fun (i, _, _)=>[(25, .int .i64 (i : Int))]) (fun (_, f, s)=>memK n f s (List.replicate n (-1))) (fun (i, _, _)=>n - i) (0, List.replicate n (-1), List.replicate n (-1)) ⟨Nat.zero_le _, List.length_replicate, List.length_replicate, fun k hk=>by rw [getD_rep _ _ _ hk, if_neg (by simp), if_neg (by simp)]; exact ⟨rfl, rfl⟩⟩ ?_; conv=>whnf
   refine ⟨sI, ?_⟩
   rintro ⟨i, f, s⟩ ⟨hi, hf, hs, hp⟩
   conv=>whnf
   repeat' first | (refine at_ ?_; conv=>whnf) | (refine cmpI (fun _=>?_) (fun _=>?_) <;> conv=>whnf)
   ·refine ⟨(i + 1, f.set i ((i : Int) - 1), s.set i ((i : Int) + 1)), sI, ⟨by omega, by simpa using hf, by simpa using hs, fun k hk=>?_⟩, by dsimp only; omega⟩
    rw [getD_set, getD_set, (hp k hk).1, (hp k hk).2]
    constructor <;> (repeat' split) <;> omega
   all_goals
    refine ⟨linkA_eq (by simpa using hf) (by simpa using hs) (by simp) (fun k hk=>?_) (by unfold lkB; rw [decide_eq_true]; intro h; omega), rfl⟩
    simp only [getD_set, List.length_set, (hp k hk).1, (hp k hk).2, getD_rep _ _ _ hk]
    unfold nbF nbS nbP
    refine ⟨?_, ?_, ?_⟩ <;> (repeat' split) <;> omega
 ·by_cases h4 : t = 4
  ·subst h4
   repeat' first | (refine at_ ?_; conv=>whnf) | (refine cmpI (fun _=>?_) (fun _=>?_) <;> conv=>whnf)
   by_cases hsh : shp l
   ·have he:=endsF l hl
    rw [if_pos hsh] at he
    have hel : (endsL l).length = l.length:=by simp [endsL]
    have hpos:=shp_pos hsh
    (refine oP (he) ?_; conv=>whnf)
    refine needI (by intro h; rw [h] at hel; simp at hel; omega) ?_
    conv=>whnf
    by_cases hln : l.length = n
    ·subst hln
     repeat' first | (refine at_ ?_; conv=>whnf) | (refine cmpI (fun _=>?_) (fun _=>?_) <;> conv=>whnf)
     refine WPc.loopF tt_ok mx_ok (fun ((i, f, s, p) : Nat × List Int × List Int × List Int)=>i ≤ l.length ∧ f.length = l.length ∧ s.length = l.length ∧ p.length = l.length ∧ ∀ k, k < l.length → f.getD k 0 = (if k < i then firstT l k else -1) ∧ s.getD k 0 = (if k < i then secondT l k else -1) ∧ p.getD k 0 = parN l k i) (fun (i, _, _, _)=>[(79, .int .i64 (i : Int))]) (fun (_, f, s, p)=>memK l.length f s p) (fun (i, _, _, _)=>l.length - i) (0, List.replicate l.length (-1), List.replicate l.length (-1), List.replicate l.length (-1)) ⟨Nat.zero_le _, List.length_replicate, List.length_replicate, List.length_replicate, fun k hk=>by rw [getD_rep _ _ _ hk, if_neg (by simp), if_neg (by simp)]; exact ⟨rfl, rfl, rfl⟩⟩ ?_; conv=>whnf
     refine ⟨sI, ?_⟩
     rintro ⟨i, f, s, p⟩ ⟨hi, hf, hs, hp, hall⟩
     conv=>whnf
     refine cmpI (fun hlt=>?_) (fun hlt=>?_) <;> conv=>whnf
     ·have hil : i < l.length:=by omega
      by_cases h2 : l.getD (i : Int).toNat 0 = 2
      ·obtain ⟨a1, a2, a3, a4, a5⟩:=hsh.two hil (by simpa using h2)
       have hv : (endsL l).getD ((i : Int) + 1).toNat 0 = (endAt l (i + 1) : Int):=by
        rw [show ((i : Int) + 1).toNat = i + 1 by omega]
        exact getD_map_range _ _ _ a1
       repeat' first | (refine at_ ?_; conv=>whnf) | (refine cmpI (fun _=>?_) (fun _=>?_) <;> conv=>whnf)
       refine ⟨(i + 1, f.set i ((i : Int) + 1), s.set i ((endsL l).getD ((i : Int) + 1).toNat 0), (p.set ((i : Int) + 1).toNat i).set ((endsL l).getD ((i : Int) + 1).toNat 0).toNat i), sI, ⟨by omega, by simpa using hf, by simpa using hs, by simpa using hp, fun k hk=>?_⟩, by dsimp only; omega⟩
       obtain ⟨b1, b2, b3⟩:=hall k hk
       rw [getD_set, getD_set, getD_set, getD_set, List.length_set, hv, b1, b2, b3, parN_succ]
       rw [tN] at h2
       refine ⟨?_, ?_, ?_⟩
       ·by_cases hik : i = k
        ·subst hik; rw [if_pos (by omega), if_pos (by omega), firstT, if_pos h2]; omega
        ·rw [if_neg (by omega)]; (repeat' split) <;> first | rfl | omega
       ·by_cases hik : i = k
        ·subst hik; rw [if_pos (by omega), if_pos (by omega), secondT, if_pos h2]
        ·rw [if_neg (by omega)]; (repeat' split) <;> first | rfl | omega
       ·by_cases hpk : isPar l k i = true
        ·rw [if_pos hpk]
         simp only [isPar, Bool.and_eq_true, Bool.or_eq_true, decide_eq_true_eq] at hpk
         rcases hpk.2 with e | e
         ·by_cases hx : (endAt l (i + 1) : Int).toNat = k
          ·rw [if_pos (by omega)]
          ·rw [if_neg (by omega), if_pos (by omega)]
         ·rw [if_pos (by omega)]
        ·rw [if_neg hpk]
         simp only [isPar, h2, decide_true, Bool.true_and, Bool.or_eq_true, decide_eq_true_eq, not_or] at hpk
         rw [if_neg (by omega), if_neg (by omega)]
      ·repeat' first | (refine at_ ?_; conv=>whnf) | (refine cmpI (fun _=>?_) (fun _=>?_) <;> conv=>whnf)
       refine ⟨(i + 1, f, s, p), sI, ⟨by omega, hf, hs, hp, fun k hk=>?_⟩, by dsimp only; omega⟩
       obtain ⟨b1, b2, b3⟩:=hall k hk
       rw [tN] at h2
       rw [b1, b2, b3, parN_succ, if_neg (show ¬ isPar l k i = true by simp [isPar]; intro h; exact absurd h h2)]
       refine ⟨?_, ?_, rfl⟩
       ·by_cases hik : i = k
        ·subst hik; rw [if_neg (by omega), if_pos (by omega), firstT, if_neg h2]
        ·(repeat' split) <;> first | rfl | omega
       ·by_cases hik : i = k
        ·subst hik; rw [if_neg (by omega), if_pos (by omega), secondT, if_neg h2]
        ·(repeat' split) <;> first | rfl | omega
     ·obtain rfl : i = l.length:=by omega
      have hlk : lkB 4 l l.length = true:=by unfold lkB; rw [decide_eq_true]; exact fun _=>⟨hsh, rfl⟩
      refine ⟨linkA_eq hf hs hp (fun k hk=>?_) hlk.symm, rfl⟩
      obtain ⟨b1, b2, b3⟩:=hall k hk
      rw [b1, b2, b3, if_pos hk, if_pos hk, parN_all hsh hk]
      simp [nbF, nbS, nbP, hlk]
    ·repeat' first | (refine at_ ?_; conv=>whnf) | (refine cmpI (fun _=>?_) (fun _=>?_) <;> conv=>whnf)
     have hlk : lkB 4 l n = false:=by unfold lkB; rw [decide_eq_false]; exact fun h=>hln (h rfl).2
     refine ⟨linkA_eq (by simp) (by simp) (by simp) (fun k hk=>?_) hlk.symm, rfl⟩
     rw [getD_rep _ _ _ hk, nbF, nbS, nbP, hlk]
     exact ⟨rfl, rfl, rfl⟩
   ·have he:=endsF l hl
    rw [if_neg hsh] at he
    (refine oP (he) ?_; conv=>whnf)
    repeat' first | (refine at_ ?_; conv=>whnf) | (refine cmpI (fun _=>?_) (fun _=>?_) <;> conv=>whnf)
    have hlk : lkB 4 l n = false:=by unfold lkB; rw [decide_eq_false]; exact fun h=>hsh (h rfl).1
    refine ⟨linkA_eq (by simp) (by simp) (by simp) (fun k hk=>?_) hlk.symm, rfl⟩
    rw [getD_rep _ _ _ hk, nbF, nbS, nbP, hlk]
    exact ⟨rfl, rfl, rfl⟩
  ·repeat' first | (refine at_ ?_; conv=>whnf) | (refine cmpI (fun _=>?_) (fun _=>?_) <;> conv=>whnf)
   refine ⟨linkA_eq (by simp) (by simp) (by simp) (fun k hk=>?_) (by unfold lkB; rw [decide_eq_true]; intro h; omega), rfl⟩
   rw [getD_rep _ _ _ hk, nbF, nbS, nbP, if_neg (by omega), if_neg (by omega), if_neg (by omega), if_neg (by omega), if_neg (by omega), if_neg (by omega), if_neg (by omega)]
   exact ⟨rfl, rfl, rfl⟩
set_option maxRecDepth 100000
def nbr (t : Int) (l : List Int) (n i : Int) : Int × Int × Int :=
 if i < 0 ∨ n ≤ i then (-1, -1, -1) else if t = 2 then (i - 1, (if i + 1 = n then -1 else i + 1), -1)
 else if t = 3 then ((if i - 1 < 0 then n - 1 else i - 1), (if i + 1 = n then 0 else i + 1), -1)
 else if t = 4 ∧ (l.length : Int) = n ∧ shp l then (firstT l i.toNat, secondT l i.toNat, parentT l i.toNat) else (-1, -1, -1)
def nbrA (x : Int × Int × Int) : AV:=.tup [.int .i64 x.1, .int .i64 x.2.1, .int .i64 x.2.2]
theorem nbrA_eq {a b c : Int} {x : Int × Int × Int} (h : x = (a, b, c)) : AV.tup [.int .i64 a, .int .i64 b, .int .i64 c] = nbrA x:=by rw [h]; rfl
set_option maxRecDepth 100000
structure Cfg where
 shape : List Int
 states : List Int
 correct : Int
 sent : List Int
 faulty : List Int
 value : Int
def encC (c : Cfg) : List AV:=[.sl 0 encI c.shape, .sl 0 encI c.states, .int .i64 c.correct, .sl 0 encI c.sent, .sl 0 encI c.faulty, .int .i64 c.value]
def cfg0 : Cfg:=⟨[], [], 0, [], [], 0⟩
def wideB (c : Cfg) : Bool:=decide (100 < c.shape.length) || decide (100 < c.states.length) || decide (100 < c.sent.length) || decide (100 < c.faulty.length)
def orL : List Int → Int
 | []=>0
 | x :: l=>if x ≠ 0 then x else orL l
theorem orL_drop {l : List Int} {k : Nat} (h : k < l.length) : orL (l.drop k) = if l.getD k 0 ≠ 0 then l.getD k 0 else orL (l.drop (k + 1)):=by
 rw [drop_cons h]; rfl
theorem cmpL_neg (a b : List Int) : cmpL b a = - cmpL a b:=by
 induction a generalizing b with
 | nil=>cases b <;> rfl
 | cons x xs ih =>
  cases b with
  | nil=>rfl
  | cons y ys =>
   simp only [cmpL]
   by_cases h1 : x < y
   ·rw [if_neg (by omega), if_pos h1, if_pos h1]; rfl
   ·by_cases h2 : y < x
    ·rw [if_pos h2, if_neg h1, if_pos h2]
    ·rw [if_neg h2, if_neg h1, if_neg h1, if_neg h2, ih]
def Tri (x y z : Int) : Prop:=(x ≤ 0 → y ≤ 0 → z ≤ 0) ∧ (x = 0 → y = 0 → z = 0) ∧ (x < 0 → y ≤ 0 → z < 0) ∧ (x ≤ 0 → y < 0 → z < 0)
theorem Tri.or {x y z : Int} {xs ys zs : List Int} (h : Tri x y z) (h' : Tri (orL xs) (orL ys) (orL zs)) : Tri (orL (x :: xs)) (orL (y :: ys)) (orL (z :: zs)):=by
 obtain ⟨a1, a2, a3, a4⟩:=h
 obtain ⟨b1, b2, b3, b4⟩:=h'
 simp only [orL]
 refine ⟨?_, ?_, ?_, ?_⟩ <;> (repeat' split) <;> omega
theorem Tri.z (a b c : Int) : Tri (cmpZ a b) (cmpZ b c) (cmpZ a c):=by
 unfold Tri cmpZ
 refine ⟨?_, ?_, ?_, ?_⟩ <;> (repeat' split) <;> omega
theorem Tri.l (a b c : List Int) : Tri (cmpL a b) (cmpL b c) (cmpL a c):=by
 have tr:=cmpL_ord.trans a b c
 have e1 : cmpL a b = 0 → cmpL a c = cmpL b c:=fun h=>by rw [cmpL_eq h]
 have e2 : cmpL b c = 0 → cmpL a c = cmpL a b:=fun h=>by rw [cmpL_eq h]
 have e3 : cmpL a c = 0 → cmpL b c = - cmpL a b:=fun h=>by rw [cmpL_eq h, ← cmpL_neg]
 refine ⟨tr, ?_, ?_, ?_⟩ <;> omega
end Go.Proofs.YtnjggjhkfncnlaaGreatDoor
