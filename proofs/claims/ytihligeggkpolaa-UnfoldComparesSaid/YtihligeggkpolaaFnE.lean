/-
  The shapes of trees with at most eight nodes.
-/
import Derived.Test.YtihligeggkpolaaFnD
namespace Go.Proofs.Ytihligeggkpolaa
set_option maxRecDepth 10000

def shpT : Nat → List (List Int)
  | 1 => [[0]]
  | 3 => [[2, 0, 0]]
  | 5 => [[2, 0, 2, 0, 0], [2, 2, 0, 0, 0]]
  | 7 => [[2, 0, 2, 0, 2, 0, 0], [2, 0, 2, 2, 0, 0, 0], [2, 2, 0, 0, 2, 0, 0], [2, 2, 0, 2, 0, 0, 0], [2, 2, 2, 0, 0, 0, 0]]
  | _ => []
def cross (A B : List (List Int)) : List (List Int) := A.flatMap fun a => B.map fun b => 2 :: (a ++ b)
def preS (n i : Nat) : List (List Int) := (List.range i).flatMap fun t => cross (shpT (2 * t + 1)) (shpT (n - 1 - (2 * t + 1)))
theorem preS_succ (n i : Nat) : preS n (i + 1) = preS n i ++ cross (shpT (2 * i + 1)) (shpT (n - 1 - (2 * i + 1))) := by
  unfold preS; rw [List.range_succ, List.flatMap_append]; simp
theorem cross_take (A B : List (List Int)) (p : Nat) (h : p < A.length) : cross (A.take (p + 1)) B = cross (A.take p) B ++ B.map fun b => 2 :: (A.getD p [] ++ b) := by
  unfold cross
  rw [List.take_succ_eq_append_getElem h, List.flatMap_append]
  simp [List.getD, h]
theorem map_take (B : List (List Int)) (f : List Int → List Int) (q : Nat) (h : q < B.length) : (B.take (q + 1)).map f = (B.take q).map f ++ [f (B.getD q [])] := by
  rw [List.take_succ_eq_append_getElem h, List.map_append]
  have : B.getD q [] = B[q] := by simp [List.getD, h]
  rw [this]; rfl
theorem shpT_len : ∀ n ∈ List.range 9, (shpT n).length ≤ 5 ∧ ∀ a ∈ shpT n, a.length ≤ 8 := by decide
theorem shpT_le {n : Nat} (h : n ≤ 8) : (shpT n).length ≤ 5 ∧ ∀ a ∈ shpT n, a.length ≤ 8 := shpT_len n (List.mem_range.2 (by omega))
theorem cross_len (A B : List (List Int)) : (cross A B).length = A.length * B.length := by
  unfold cross
  induction A with
  | nil => simp
  | cons a A ih => rw [List.flatMap_cons, List.length_append, ih]; simp [Nat.add_mul, Nat.add_comm]
theorem preS_len {n : Nat} (hn : n ≤ 8) : ∀ i : Nat, 2 * i ≤ n → (preS n i).length ≤ 25 * i
  | 0, _ => by simp [preS]
  | i + 1, h => by
    rw [preS_succ, List.length_append, cross_len]
    have h1 := preS_len hn i (by omega)
    have h2 := (shpT_le (n := 2 * i + 1) (by omega)).1
    have h3 := (shpT_le (n := n - 1 - (2 * i + 1)) (by omega)).1
    have h4 : (shpT (2 * i + 1)).length * (shpT (n - 1 - (2 * i + 1))).length ≤ 5 * 5 := Nat.mul_le_mul h2 h3
    omega
theorem asc_unique : ∀ {l l' : List (List Int)}, Asc l → Asc l' → l.Perm l' → l = l'
  | [], l', _, _, hp => (List.nil_perm.1 hp).symm
  | a :: l, [], _, _, hp => by have := hp.length_eq; simp at this
  | a :: l, b :: l', h, h', hp => by
    have hh := List.pairwise_cons.1 h
    have hh' := List.pairwise_cons.1 h'
    have hab : a = b := by
      have h1 : a ∈ b :: l' := hp.mem_iff.1 (by simp)
      have h2 : b ∈ a :: l := hp.mem_iff.2 (by simp)
      rcases List.mem_cons.1 h1 with e | h1
      · exact e
      · rcases List.mem_cons.1 h2 with e | h2
        · exact e.symm
        · have := hh.1 b h2
          have := hh'.1 a h1
          have := cmpL_ord.anti _ _ (hh.1 b h2)
          omega
    subst hab
    rw [asc_unique hh.2 hh'.2 (List.Perm.cons_inv hp)]
instance (l : List (List Int)) : Decidable (Asc l) := inferInstanceAs (Decidable (List.Pairwise _ _))
theorem shpT_asc : ∀ m ∈ [1, 2, 3], Asc (shpT (2 * m + 1)) ∧ (shpT (2 * m + 1)).Perm (preS (2 * m + 1) m) ∧ (preS (2 * m + 1) m).Nodup ∧ (preS (2 * m + 1) m).length ≤ 12 ∧ ∀ a ∈ preS (2 * m + 1) m, a.length ≤ 8 := by decide

theorem shapesEven (n : Int) (h : n.tmod 2 = 0) : PSpec Try.prog 17 [.int .i64 n] (fun u => u = .nilsl) := by
  refine PSpec.intro tt_ok mx_ok Try.func17 rfl (by decide) ?_; (conv => whnf)
  repeat' (first
      | (refine needI (by first | omega | (dsimp only; omega)) ?_; conv => whnf)
      | (refine arI trivial (by omega) ?_; conv => whnf)
      | (refine arU trivial (by omega) ?_; conv => whnf)
      | (refine arB trivial (by omega) ?_; conv => whnf)
      | (refine drawI (by decide +kernel) ?_; conv => whnf)
      | (refine drawR (by decide +kernel) ?_; conv => whnf)
      | (refine boxP rfl ?_; conv => whnf)
      | (refine appI _ rfl (by first | omega | (dsimp only; omega) | (simp only [List.length_cons, List.length_nil, List.length_append]; omega)) ?_; conv => whnf)
      | (refine rowSetI _ rfl ?_; conv => whnf)
      | (refine cmpT (by omega) ?_; conv => whnf)
      | (refine cmpF (by omega) ?_; conv => whnf)
      | (refine cmpI (fun _ => ?_) (fun _ => ?_) <;> conv => whnf))
  · exact ⟨rfl, rfl⟩
  all_goals exact absurd h (by assumption)

theorem shapesOdd : ∀ m : Nat, m ≤ 3 → PSpec Try.prog 17 [.int .i64 ((2 * m + 1 : Nat) : Int)] (fun u => u = .sl [] encL (shpT (2 * m + 1))) := by
  intro m
  induction m using Nat.strongRecOn with
  | _ m ih =>
    intro hm
    have hodd : ((2 * m + 1 : Nat) : Int).tmod 2 = 1 := by
      rw [Int.tmod_eq_emod_of_nonneg (by omega)]; omega
    refine PSpec.intro tt_ok mx_ok Try.func17 rfl (by decide) ?_; (conv => whnf)
    refine needI (by decide) ?_
    conv => whnf
    refine cmpF (by rw [hodd]; decide) ?_
    conv => whnf
    by_cases h0 : m = 0
    · subst h0
      repeat' (first
          | (refine needI (by first | omega | (dsimp only; omega)) ?_; conv => whnf)
          | (refine arI trivial (by omega) ?_; conv => whnf)
          | (refine arU trivial (by omega) ?_; conv => whnf)
          | (refine arB trivial (by omega) ?_; conv => whnf)
          | (refine drawI (by decide +kernel) ?_; conv => whnf)
          | (refine drawR (by decide +kernel) ?_; conv => whnf)
          | (refine boxP rfl ?_; conv => whnf)
          | (refine appI _ rfl (by first | omega | (dsimp only; omega) | (simp only [List.length_cons, List.length_nil, List.length_append]; omega)) ?_; conv => whnf)
          | (refine rowSetI _ rfl ?_; conv => whnf)
          | (refine cmpT (by omega) ?_; conv => whnf)
          | (refine cmpF (by omega) ?_; conv => whnf)
          | (refine cmpI (fun _ => ?_) (fun _ => ?_) <;> conv => whnf))
      refine bldI [] encL [[0]] rfl ?_
      conv => whnf
      exact ⟨rfl, rfl⟩
    · repeat' (first
          | (refine needI (by first | omega | (dsimp only; omega)) ?_; conv => whnf)
          | (refine arI trivial (by omega) ?_; conv => whnf)
          | (refine arU trivial (by omega) ?_; conv => whnf)
          | (refine arB trivial (by omega) ?_; conv => whnf)
          | (refine drawI (by decide +kernel) ?_; conv => whnf)
          | (refine drawR (by decide +kernel) ?_; conv => whnf)
          | (refine boxP rfl ?_; conv => whnf)
          | (refine appI _ rfl (by first | omega | (dsimp only; omega) | (simp only [List.length_cons, List.length_nil, List.length_append]; omega)) ?_; conv => whnf)
          | (refine rowSetI _ rfl ?_; conv => whnf)
          | (refine cmpT (by omega) ?_; conv => whnf)
          | (refine cmpF (by omega) ?_; conv => whnf)
          | (refine cmpI (fun _ => ?_) (fun _ => ?_) <;> conv => whnf))
      refine WPc.loop (fun i : Nat => i ≤ m) (fun i => ((.int .i64 ((2 * m + 1 : Nat) : Int)) :: .top :: .top :: (.row 103 (preS (2 * m + 1) i).length 1) :: (.int .i64 ((2 * i + 1 : Nat) : Int)) :: T 46)) (fun i => Mem.ofL [(103, rowL (preS (2 * m + 1) i))]) (fun i => m - i) 0 (by omega) (Sub.by_ [(103, .nil 1)] _ 400 rfl ⟨rfl, trivial⟩ (by repeat' (first | exact True.intro | exact rfl | (refine And.intro ?_ ?_) | ((conv => whnf); omega) | ((conv => whnf); simp only [List.length_append, List.length_cons, List.length_nil]; done) | ((conv => whnf); simp only [List.length_append, List.length_cons, List.length_nil]; omega)))) ?_
      intro i hi
      refine codeK_ok tt_ok mx_ok _ _ _ _ ?_
      conv => whnf
      repeat' (first
          | (refine needI (by first | omega | (dsimp only; omega)) ?_; conv => whnf)
          | (refine arI trivial (by omega) ?_; conv => whnf)
          | (refine arU trivial (by omega) ?_; conv => whnf)
          | (refine arB trivial (by omega) ?_; conv => whnf)
          | (refine drawI (by decide +kernel) ?_; conv => whnf)
          | (refine drawR (by decide +kernel) ?_; conv => whnf)
          | (refine boxP rfl ?_; conv => whnf)
          | (refine appI _ rfl (by first | omega | (dsimp only; omega) | (simp only [List.length_cons, List.length_nil, List.length_append]; omega)) ?_; conv => whnf)
          | (refine rowSetI _ rfl ?_; conv => whnf)
          | (refine cmpT (by omega) ?_; conv => whnf)
          | (refine cmpF (by omega) ?_; conv => whnf)
          | (refine cmpI (fun _ => ?_) (fun _ => ?_) <;> conv => whnf))
      · (refine Spec.of_pure (n := 5) (ih i (by omega) (by omega)) rfl ?_; rintro _ rfl; conv => whnf)
        have hA := shpT_le (n := 2 * i + 1) (by omega)
        have hB := shpT_le (n := 2 * (m - 1 - i) + 1) (by omega)
        have eB : 2 * m + 1 - 1 - (2 * i + 1) = 2 * (m - 1 - i) + 1 := by omega
        have hsucc := preS_succ (2 * m + 1) i
        have hpl := preS_len (n := 2 * m + 1) (by omega) i (by omega)
        rw [eB] at hsucc
        have ihB := ih (m - 1 - i) (by omega) (by omega)
        have eN : ((2 * m + 1 : Nat) : Int) - 1 - ((2 * i + 1 : Nat) : Int) = ((2 * (m - 1 - i) + 1 : Nat) : Int) := by omega
        generalize shpT (2 * i + 1) = A at hA hsucc ⊢
        generalize shpT (2 * (m - 1 - i) + 1) = B at hB hsucc ihB
        generalize preS (2 * m + 1) i = out at hsucc hpl ⊢
        refine WPc.loop (fun p : Nat => p ≤ A.length) (fun p => ((.int .i64 ((2 * m + 1 : Nat) : Int)) :: .top :: .top :: (.row 103 (out ++ cross (A.take p) B).length 1) :: (.int .i64 ((2 * i + 1 : Nat) : Int)) :: .top :: .top :: .top :: .top :: .top :: .top :: .top :: .top :: .top :: .top :: .top :: .top :: .top :: .top :: .top :: .top :: .top :: .top :: (.sl [] encL A) :: (.int .i64 (A.length : Int)) :: (.int .i64 (p : Int)) :: T 25)) (fun p => Mem.ofL [(103, rowL (out ++ cross (A.take p) B))]) (fun p => A.length - p) 0 (by omega) (Sub.by_ [(103, .old 103)] _ 400 rfl ⟨rowL_eq (by simp [cross]), trivial⟩ (by simp only [List.take_zero, cross, List.flatMap_nil, List.append_nil]; repeat' (first | exact True.intro | exact rfl | (refine And.intro ?_ ?_) | ((conv => whnf); omega) | ((conv => whnf); simp only [List.length_append, List.length_cons, List.length_nil]; done) | ((conv => whnf); simp only [List.length_append, List.length_cons, List.length_nil]; omega)))) ?_
        intro p hp
        refine codeK_ok tt_ok mx_ok _ _ _ _ ?_
        conv => whnf
        repeat' (first
            | (refine needI (by first | omega | (dsimp only; omega)) ?_; conv => whnf)
            | (refine arI trivial (by omega) ?_; conv => whnf)
            | (refine arU trivial (by omega) ?_; conv => whnf)
            | (refine arB trivial (by omega) ?_; conv => whnf)
            | (refine drawI (by decide +kernel) ?_; conv => whnf)
            | (refine drawR (by decide +kernel) ?_; conv => whnf)
            | (refine boxP rfl ?_; conv => whnf)
            | (refine appI _ rfl (by first | omega | (dsimp only; omega) | (simp only [List.length_cons, List.length_nil, List.length_append]; omega)) ?_; conv => whnf)
            | (refine rowSetI _ rfl ?_; conv => whnf)
            | (refine cmpT (by omega) ?_; conv => whnf)
            | (refine cmpF (by omega) ?_; conv => whnf)
            | (refine cmpI (fun _ => ?_) (fun _ => ?_) <;> conv => whnf))
        · rw [eN]
          (refine Spec.of_pure (n := 5) (ihB) rfl ?_; rintro _ rfl; conv => whnf)
          have hct := cross_take A B p (by omega)
          have hcl := cross_len (A.take p) B
          have hcl2 : (A.take p).length * B.length ≤ 5 * 5 := Nat.mul_le_mul (by simp; omega) hB.1
          have hal : (A.getD p []).length ≤ 8 := hA.2 _ (List.mem_of_getElem? (getD_of_lt (d := []) (l := A) (n := p) (by omega)))
          simp only [Int.toNat_natCast]
          generalize A.getD p [] = a at hct hal ⊢
          generalize cross (A.take p) B = base at hct hcl ⊢
          refine WPc.loop (fun q : Nat => q ≤ B.length) (fun q => ((.int .i64 ((2 * m + 1 : Nat) : Int)) :: .top :: .top :: (.row 103 (out ++ base ++ (B.take q).map fun b => 2 :: (a ++ b)).length 1) :: (.int .i64 ((2 * i + 1 : Nat) : Int)) :: .top :: (.sl 0 encI a) :: .top :: .top :: .top :: .top :: .top :: .top :: .top :: .top :: .top :: .top :: .top :: .top :: .top :: .top :: .top :: .top :: (.sl [] encL A) :: (.int .i64 (A.length : Int)) :: (.int .i64 (p : Int)) :: .top :: .top :: .top :: .top :: .top :: .top :: .top :: (.sl [] encL B) :: (.int .i64 (B.length : Int)) :: (.int .i64 (q : Int)) :: T 15)) (fun q => Mem.ofL [(103, rowL (out ++ base ++ (B.take q).map fun b => 2 :: (a ++ b)))]) (fun q => B.length - q) 0 (by omega) (Sub.by_ [(103, .old 103)] _ 400 rfl ⟨rowL_eq (by simp), trivial⟩ (by simp only [List.take_zero, List.map_nil, List.append_nil]; repeat' (first | exact True.intro | exact rfl | (refine And.intro ?_ ?_) | ((conv => whnf); omega) | ((conv => whnf); simp only [List.length_append, List.length_cons, List.length_nil]; done) | ((conv => whnf); simp only [List.length_append, List.length_cons, List.length_nil]; omega)))) ?_
          intro q hq
          refine codeK_ok tt_ok mx_ok _ _ _ _ ?_
          conv => whnf
          repeat' (first
              | (refine needI (by first | omega | (dsimp only; omega)) ?_; conv => whnf)
              | (refine arI trivial (by omega) ?_; conv => whnf)
              | (refine arU trivial (by omega) ?_; conv => whnf)
              | (refine arB trivial (by omega) ?_; conv => whnf)
              | (refine drawI (by decide +kernel) ?_; conv => whnf)
              | (refine drawR (by decide +kernel) ?_; conv => whnf)
              | (refine boxP rfl ?_; conv => whnf)
              | (refine appI _ rfl (by first | omega | (dsimp only; omega) | (simp only [List.length_cons, List.length_nil, List.length_append]; omega)) ?_; conv => whnf)
              | (refine rowSetI _ rfl ?_; conv => whnf)
              | (refine cmpT (by omega) ?_; conv => whnf)
              | (refine cmpF (by omega) ?_; conv => whnf)
              | (refine cmpI (fun _ => ?_) (fun _ => ?_) <;> conv => whnf))
          · have hbl : (B.getD q []).length ≤ 8 := hB.2 _ (List.mem_of_getElem? (getD_of_lt (d := []) (l := B) (n := q) (by omega)))
            have hmt := map_take B (fun b => 2 :: (a ++ b)) q (by omega)
            have hl3 : (out ++ base ++ (B.take q).map fun b => 2 :: (a ++ b)).length ≤ 200 := by
              simp only [List.length_append, List.length_map, List.length_take]; omega
            simp only [Int.toNat_natCast]
            generalize B.getD q [] = b at hmt hbl ⊢
            generalize hX : (out ++ base ++ (B.take q).map fun b => 2 :: (a ++ b)) = X at hl3 ⊢
            repeat' (first
                | (refine needI (by first | omega | (dsimp only; omega)) ?_; conv => whnf)
                | (refine arI trivial (by omega) ?_; conv => whnf)
                | (refine arU trivial (by omega) ?_; conv => whnf)
                | (refine arB trivial (by omega) ?_; conv => whnf)
                | (refine drawI (by decide +kernel) ?_; conv => whnf)
                | (refine drawR (by decide +kernel) ?_; conv => whnf)
                | (refine boxP rfl ?_; conv => whnf)
                | (refine appI _ rfl (by first | omega | (dsimp only; omega) | (simp only [List.length_cons, List.length_nil, List.length_append]; omega)) ?_; conv => whnf)
                | (refine rowSetI _ rfl ?_; conv => whnf)
                | (refine cmpT (by omega) ?_; conv => whnf)
                | (refine cmpF (by omega) ?_; conv => whnf)
                | (refine cmpI (fun _ => ?_) (fun _ => ?_) <;> conv => whnf))
            refine bldI [] encL [[2] ++ a ++ b] rfl ?_
            conv => whnf
            repeat' (first
                | (refine needI (by first | omega | (dsimp only; omega)) ?_; conv => whnf)
                | (refine arI trivial (by omega) ?_; conv => whnf)
                | (refine arU trivial (by omega) ?_; conv => whnf)
                | (refine arB trivial (by omega) ?_; conv => whnf)
                | (refine drawI (by decide +kernel) ?_; conv => whnf)
                | (refine drawR (by decide +kernel) ?_; conv => whnf)
                | (refine boxP rfl ?_; conv => whnf)
                | (refine appI _ rfl (by first | omega | (dsimp only; omega) | (simp only [List.length_cons, List.length_nil, List.length_append]; omega)) ?_; conv => whnf)
                | (refine rowSetI _ rfl ?_; conv => whnf)
                | (refine cmpT (by omega) ?_; conv => whnf)
                | (refine cmpF (by omega) ?_; conv => whnf)
                | (refine cmpI (fun _ => ?_) (fun _ => ?_) <;> conv => whnf))
            have hq1 : (out ++ base ++ (B.take (q + 1)).map fun b => 2 :: (a ++ b)) = X ++ [[2] ++ a ++ b] := by rw [hmt, ← hX]; simp
            refine ⟨q + 1, ?_, by omega, Nat.sub_lt_sub_left (by omega) (by omega)⟩
            simp only [hq1]
            exact Sub.by_ [(103, .old 46)] _ 400 rfl ⟨rfl, trivial⟩ (by repeat' (first | exact True.intro | exact rfl | (refine And.intro ?_ ?_) | ((conv => whnf); omega) | ((conv => whnf); simp only [List.length_append, List.length_cons, List.length_nil]; done) | ((conv => whnf); simp only [List.length_append, List.length_cons, List.length_nil]; omega)))
          · have hq2 : q = B.length := by omega
            have hp1 : out ++ base ++ ((B.take q).map fun b => 2 :: (a ++ b)) = out ++ cross (A.take (p + 1)) B := by
              rw [hct, hq2, List.take_length, List.append_assoc]
            rw [hp1]
            refine ⟨p + 1, ?_, by omega, Nat.sub_lt_sub_left (by omega) (by omega)⟩
            exact Sub.by_ [(103, .old 103)] _ 400 rfl ⟨rfl, trivial⟩ (by repeat' (first | exact True.intro | exact rfl | (refine And.intro ?_ ?_) | ((conv => whnf); omega) | ((conv => whnf); simp only [List.length_append, List.length_cons, List.length_nil]; done) | ((conv => whnf); simp only [List.length_append, List.length_cons, List.length_nil]; omega)))
        · have hp2 : p = A.length := by omega
          rw [hp2, List.take_length, ← hsucc]
          refine ⟨i + 1, ?_, by omega, Nat.sub_lt_sub_left (by omega) (by omega)⟩
          exact Sub.by_ [(103, .old 103)] _ 400 rfl ⟨rfl, trivial⟩ (by repeat' (first | exact True.intro | exact rfl | (refine And.intro ?_ ?_) | ((conv => whnf); omega) | ((conv => whnf); simp only [List.length_append, List.length_cons, List.length_nil]; done) | ((conv => whnf); simp only [List.length_append, List.length_cons, List.length_nil]; omega)))
      · obtain rfl : i = m := by omega
        have hsh := shpT_asc i (by simp; omega)
        refine Spec.hand 103 rfl ?_
        refine Spec.of_pure (n := 5) (tidyL (preS (2 * i + 1) i) hsh.2.2.2.1 (fun a ha => by have := hsh.2.2.2.2 a ha; omega) hsh.2.2.1) rfl ?_
        rintro _ ⟨l', rfl, hp, ha⟩
        conv => whnf
        rw [asc_unique ha hsh.1 (hp.trans hsh.2.1.symm)]
        exact ⟨rfl, rfl⟩

end Go.Proofs.Ytihligeggkpolaa
