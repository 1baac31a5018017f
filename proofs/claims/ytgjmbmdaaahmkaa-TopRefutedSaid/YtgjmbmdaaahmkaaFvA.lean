
/-
  Determinants of integer columns: linear in each column, nothing if two columns agree, 1 at the unit columns.
-/
import Derived.Test.YtgjmbmdaaahmkaaFuB
set_option linter.unusedVariables false
set_option linter.unusedSimpArgs false
namespace Go.Proofs.Ytgjmbmdaaahmkaa

def sumZ : Nat → (Nat → Int) → Int
  | 0, _ => 0
  | n + 1, f => sumZ n f + f n
theorem sumZ_congr {n : Nat} {f g : Nat → Int} (h : ∀ i, i < n → f i = g i) : sumZ n f = sumZ n g := by
  induction n with
  | zero => rfl
  | succ n ih => rw [sumZ, sumZ, ih fun i hi => h i (by omega), h n (by omega)]
theorem sumZ_lin (n : Nat) (a b : Int) (f g : Nat → Int) : sumZ n (fun i => a * f i + b * g i) = a * sumZ n f + b * sumZ n g := by
  induction n with
  | zero => simp [sumZ]
  | succ n ih => rw [sumZ, sumZ, sumZ, ih, Int.mul_add, Int.mul_add]; omega
theorem sumZ_zero (n : Nat) (f : Nat → Int) (h : ∀ i, i < n → f i = 0) : sumZ n f = 0 := by
  rw [sumZ_congr h]
  induction n with
  | zero => rfl
  | succ n ih => rw [sumZ, ih fun i hi => h i (by omega)]; rfl
theorem sumZ_one {n : Nat} {f : Nat → Int} {r : Nat} (hr : r < n) (h : ∀ i, i < n → i ≠ r → f i = 0) : sumZ n f = f r := by
  induction n with
  | zero => omega
  | succ n ih =>
    rw [sumZ]
    by_cases e : r = n
    · subst e; rw [sumZ_zero r f fun i hi => h i (by omega) (by omega)]; omega
    · rw [ih (by omega) fun i hi he => h i (by omega) he, h n (by omega) (by omega)]; omega
theorem sumZ_two {n : Nat} {f : Nat → Int} {r s : Nat} (hr : r < n) (hs : s < n) (hrs : r ≠ s) (h : ∀ i, i < n → i ≠ r → i ≠ s → f i = 0) : sumZ n f = f r + f s := by
  induction n with
  | zero => omega
  | succ n ih =>
    rw [sumZ]
    by_cases e : r = n
    · subst e; rw [sumZ_one (r := s) (by omega) fun i hi he => h i (by omega) (by omega) he]; omega
    · by_cases e2 : s = n
      · subst e2; rw [sumZ_one (r := r) (by omega) fun i hi he => h i (by omega) he (by omega)]
      · rw [ih (by omega) (by omega) fun i hi a b => h i (by omega) a b, h n (by omega) (by omega) (by omega)]; omega

abbrev Cl := Nat → Nat → Int
def drp (i : Nat) (B : Cl) : Cl := fun k c => B (if k < i then k else k + 1) (c + 1)
def sgnZ (i : Nat) : Int := if i % 2 = 0 then 1 else -1
theorem sgn_up (i : Nat) : sgnZ (i + 1) = - sgnZ i := by
  unfold sgnZ
  split <;> split <;> omega
def detZ : Nat → Cl → Int
  | 0, _ => 1
  | m + 1, B => sumZ (m + 1) fun i => sgnZ i * (B i 0 * detZ m (drp i B))
def updZ (B : Cl) (r : Nat) (v : Nat → Int) : Cl := fun k => if k = r then v else B k
theorem updZ_same (B : Cl) (r : Nat) (v : Nat → Int) : updZ B r v r = v := by simp [updZ]
theorem updZ_ne (B : Cl) {r k : Nat} (v : Nat → Int) (h : k ≠ r) : updZ B r v k = B k := by simp [updZ, h]
theorem det_ext : ∀ (m : Nat) (B C : Cl), (∀ k c, k < m → c < m → B k c = C k c) → detZ m B = detZ m C
  | 0, _, _, _ => rfl
  | m + 1, B, C, h => by
    rw [detZ, detZ]
    refine sumZ_congr fun i hi => ?_
    rw [h i 0 hi (by omega), det_ext m (drp i B) (drp i C) fun k c hk hc => ?_]
    unfold drp
    refine h _ _ ?_ (by omega)
    split <;> omega
theorem drp_upd {B : Cl} {i r : Nat} {v : Nat → Int} (h : i ≠ r) : drp i (updZ B r v) = updZ (drp i B) (if r < i then r else r - 1) (fun c => v (c + 1)) := by
  funext k c
  unfold drp updZ
  by_cases hk : k < i
  · rw [if_pos hk]
    by_cases e : k = r
    · rw [if_pos e, if_pos (by rw [if_pos (by omega)]; exact e)]
    · rw [if_neg e, if_neg (by split <;> omega)]
      dsimp only
      rw [if_pos hk]
  · rw [if_neg hk]
    by_cases e : k + 1 = r
    · rw [if_pos e, if_pos (by rw [if_neg (by omega)]; omega)]
    · rw [if_neg e, if_neg (by split <;> omega)]
      dsimp only
      rw [if_neg hk]
theorem drp_same {B : Cl} {r : Nat} {v w : Nat → Int} : drp r (updZ B r v) = drp r (updZ B r w) := by
  funext k c
  unfold drp updZ
  by_cases hk : k < r
  · rw [if_pos hk, if_neg (by omega), if_neg (by omega)]
  · rw [if_neg hk, if_neg (by omega), if_neg (by omega)]
theorem det_lin : ∀ (m : Nat) (B : Cl) (r : Nat) (u v : Nat → Int) (a b : Int), r < m → detZ m (updZ B r (fun c => a * u c + b * v c)) = a * detZ m (updZ B r u) + b * detZ m (updZ B r v)
  | 0, _, _, _, _, _, _, h => by omega
  | m + 1, B, r, u, v, a, b, h => by
    rw [detZ, detZ, detZ, ← sumZ_lin]
    refine sumZ_congr fun i hi => ?_
    by_cases e : i = r
    · subst e
      rw [updZ_same, updZ_same, updZ_same, drp_same (v := fun c => a * u c + b * v c) (w := u), drp_same (v := v) (w := u)]
      generalize detZ m (drp i (updZ B i u)) = x
      generalize sgnZ i = s
      rw [Int.add_mul, Int.mul_add]
      congr 1 <;> rw [Int.mul_assoc, Int.mul_left_comm]
    · rw [updZ_ne _ _ e, updZ_ne _ _ e, updZ_ne _ _ e, drp_upd e, drp_upd e, drp_upd e, det_lin m _ _ (fun c => u (c + 1)) (fun c => v (c + 1)) a b (by split <;> omega)]
      generalize detZ m _ = x
      generalize detZ m _ = y
      generalize B i 0 = z
      generalize sgnZ i = s
      rw [Int.mul_add, Int.mul_add]
      congr 1 <;> rw [Int.mul_left_comm z, Int.mul_left_comm s]
theorem det_adj : ∀ (m : Nat) (B : Cl) (r : Nat), r + 1 < m → (∀ c, B r c = B (r + 1) c) → detZ m B = 0
  | 0, _, _, h, _ => by omega
  | m + 1, B, r, h, he => by
    rw [detZ, sumZ_two (r := r) (s := r + 1) (by omega) h (by omega)]
    · have e : drp (r + 1) B = drp r B := by
        funext k c
        unfold drp
        by_cases h1 : k < r
        · rw [if_pos h1, if_pos (by omega)]
        · by_cases h2 : k = r
          · subst h2; rw [if_pos (by omega), if_neg (by omega), he]
          · rw [if_neg (by omega), if_neg h1]
      rw [e, ← he, sgn_up, Int.neg_mul]
      omega
    · intro i hi h1 h2
      have : detZ m (drp i B) = 0 := by
        by_cases hlt : i < r
        · refine det_adj m _ (r - 1) (by omega) fun c => ?_
          unfold drp
          rw [if_neg (by omega), if_neg (by omega), show r - 1 + 1 = r by omega]
          exact he _
        · refine det_adj m _ r (by omega) fun c => ?_
          unfold drp
          rw [if_pos (by omega), if_pos (by omega)]
          exact he _
      rw [this, Int.mul_zero, Int.mul_zero]
/-- two columns change places -/
def swpZ (B : Cl) (r s : Nat) : Cl := updZ (updZ B r (B s)) s (B r)
theorem det_alt_swap {m : Nat} {B : Cl} {r s : Nat} (hr : r < m) (hs : s < m) (hrs : r ≠ s) (h0 : ∀ C : Cl, (∀ c, C r c = C s c) → detZ m C = 0) : detZ m (swpZ B r s) = - detZ m B := by
  have key : ∀ u v : Nat → Int, detZ m (updZ (updZ B r u) s v) + detZ m (updZ (updZ B r v) s u) = 0 := by
    intro u v
    have add2 : ∀ x y : Nat → Int, detZ m (updZ (updZ B r (fun c => 1 * x c + 1 * y c)) s (fun c => 1 * x c + 1 * y c)) = detZ m (updZ (updZ B r x) s x) + detZ m (updZ (updZ B r x) s y) + (detZ m (updZ (updZ B r y) s x) + detZ m (updZ (updZ B r y) s y)) := by
      intro x y
      have comm : ∀ p q : Nat → Int, updZ (updZ B r p) s q = updZ (updZ B s q) r p := by
        intro p q; funext k
        unfold updZ
        by_cases h1 : k = s
        · subst h1; rw [if_pos rfl, if_neg (fun h => hrs h.symm), if_pos rfl]
        · rw [if_neg h1, if_neg h1]
      rw [det_lin m _ s x y 1 1 hs, comm _ x, comm _ y, det_lin m _ r x y 1 1 hr, det_lin m _ r x y 1 1 hr, ← comm, ← comm, ← comm, ← comm]
      omega
    have z : ∀ x : Nat → Int, detZ m (updZ (updZ B r x) s x) = 0 := fun x => h0 _ fun c => by
      rw [updZ_same, updZ_ne _ _ hrs, updZ_same]
    have := add2 u v
    rw [z, z, z] at this
    omega
  have e : detZ m (updZ (updZ B r (B r)) s (B s)) = detZ m B := by
    refine det_ext m _ _ fun k c _ _ => ?_
    unfold updZ
    split
    · subst_vars; rfl
    · split
      · subst_vars; rfl
      · rfl
  have := key (B s) (B r)
  rw [e] at this
  unfold swpZ
  omega
theorem det_alt {m : Nat} : ∀ (d r : Nat) (B : Cl), r + 1 + d < m → (∀ c, B r c = B (r + 1 + d) c) → detZ m B = 0
  | 0, r, B, h, he => det_adj m B r (by omega) he
  | d + 1, r, B, h, he => by
    have h1 := det_alt_swap (m := m) (B := B) (r := r + 1 + d) (s := r + 1 + d + 1) (by omega) (by omega) (by omega) fun C hC => det_adj m C (r + 1 + d) (by omega) hC
    have h2 := det_alt (m := m) d r (swpZ B (r + 1 + d) (r + 1 + d + 1)) (by omega) fun c => by
      unfold swpZ
      rw [updZ_ne _ _ (show r ≠ r + 1 + d + 1 by omega), updZ_ne _ _ (show r ≠ r + 1 + d by omega), updZ_ne _ _ (show r + 1 + d ≠ r + 1 + d + 1 by omega), updZ_same, he]
      rfl
    omega
theorem det_eq2 {m : Nat} {B : Cl} {r s : Nat} (hr : r < m) (hs : s < m) (hrs : r ≠ s) (he : ∀ c, B r c = B s c) : detZ m B = 0 := by
  by_cases h : r < s
  · exact det_alt (s - r - 1) r B (by omega) fun c => by rw [he, show r + 1 + (s - r - 1) = s by omega]
  · exact det_alt (r - s - 1) s B (by omega) fun c => by rw [← he, show s + 1 + (r - s - 1) = r by omega]
theorem det_swap {m : Nat} {B : Cl} {r s : Nat} (hr : r < m) (hs : s < m) (hrs : r ≠ s) : detZ m (swpZ B r s) = - detZ m B :=
  det_alt_swap hr hs hrs fun C hC => det_eq2 hr hs hrs hC
def uniZ : Cl := fun i c => if i = c then 1 else 0
theorem det_uni : ∀ m : Nat, detZ m uniZ = 1
  | 0 => rfl
  | m + 1 => by
    rw [detZ, sumZ_one (r := 0) (by omega)]
    · have e : drp 0 uniZ = uniZ := by
        funext k c
        unfold drp uniZ
        rw [show (if k < 0 then k else k + 1) = k + 1 from if_neg (by omega)]
        by_cases h : k = c
        · rw [if_pos (by omega), if_pos h]
        · rw [if_neg (by omega), if_neg h]
      rw [e, det_uni m]
      rfl
    · intro i _ hi
      have : uniZ i 0 = 0 := by unfold uniZ; rw [if_neg hi]
      rw [this, Int.zero_mul, Int.mul_zero]
/-- a column that is a sum of the columns -/
theorem det_sum {m : Nat} {B C : Cl} {r : Nat} (hr : r < m) (t : Nat → Int) : ∀ n, detZ m (updZ C r (fun c => sumZ n fun k => t k * B k c)) = sumZ n fun k => t k * detZ m (updZ C r (B k))
  | 0 => by
    have e : (fun c : Nat => sumZ 0 fun k => t k * B k c) = fun c => 0 * B 0 c + 0 * B 0 c := by funext c; simp [sumZ]
    rw [e, det_lin m C r (B 0) (B 0) 0 0 hr]
    simp [sumZ]
  | n + 1 => by
    have e : (fun c : Nat => sumZ (n + 1) fun k => t k * B k c) = fun c => 1 * (sumZ n fun k => t k * B k c) + t n * B n c := by funext c; rw [sumZ]; omega
    rw [e, det_lin m C r _ _ 1 (t n) hr, det_sum hr t n, sumZ]
    omega
end Go.Proofs.Ytgjmbmdaaahmkaa
