/-
  The reference's shapes; the exported functions; comparing lists of shapes.
-/
import Derived.Test.YtihligeggkpolaaFnE
namespace Go.Proofs.Ytihligeggkpolaa
set_option maxRecDepth 10000
set_option maxHeartbeats 2000000

theorem PSpec.sub {P : Program} {f : FuncId} {args : List AV} {R R' : AV → Prop} (h : PSpec P f args R) (hr : ∀ u, R u → ∃ u', R' u' ∧ avR [] 20 u u' ∧ persN 5 u' = true) : PSpec P f args R' := by
  rw [PSpec_iff] at *
  refine ⟨h.1, fun S F vs w h1 h2 h3 hv => (h.2 S F vs w h1 h2 h3 hv).mono ?_⟩
  rintro e w' ⟨v, u, S', a, b, c, d, e', f', g, hw⟩
  obtain ⟨u', hu', hav, hp⟩ := hr u b
  have := (avR_ok (S := S') (ρ := fun _ => none) (lm := []) 20).1 u u' v hav (.p g)
  exact ⟨v, u', S', a, hu', c, d, e', f', persN_ok 5 hp this, hw⟩

theorem preS_shpT : ∀ m ∈ [1, 2, 3], preS (2 * m + 1) m = shpT (2 * m + 1) := by decide

theorem refShapesOdd : ∀ m : Nat, m ≤ 3 → PSpec Try.prog 19 [.int .i64 ((2 * m + 1 : Nat) : Int)] (fun u => u = .sl [] encL (shpT (2 * m + 1))) := by
  intro m
  induction m using Nat.strongRecOn with
  | _ m ih =>
    intro hm
    refine PSpec.intro tt_ok mx_ok Try.func19 rfl (by decide) ?_; (conv => whnf)
    by_cases h0 : m = 0
    · subst h0
      repeat' (first
          | (refine needI (by first | omega | (dsimp only; omega)) ?_; conv => whnf)
          | (refine arI trivial (by omega) ?_; conv => whnf)
          | (refine arU trivial (by omega) ?_; conv => whnf)
          | (refine arB trivial (by omega) ?_; conv => whnf)
          | (refine drawI (by decide +kernel) ?_; conv => whnf)
          | (refine drawR (by decide +kernel) ?_; conv => whnf)
          | (refine boxP rfl ?_; conv => whnf)
          | (refine appI _ rfl (by first | omega | (dsimp only; omega) | (simp only [List.length_cons, List.length_nil, List.length_append]; omega)) ?_; conv => whnf)
          | (refine rowSetI _ rfl ?_; conv => whnf)
          | (refine cmpT (by omega) ?_; conv => whnf)
          | (refine cmpF (by omega) ?_; conv => whnf)
          | (refine cmpI (fun _ => ?_) (fun _ => ?_) <;> conv => whnf))
      refine bldI [] encL [[0]] rfl ?_
      conv => whnf
      exact ⟨rfl, rfl⟩
    · repeat' (first
          | (refine needI (by first | omega | (dsimp only; omega)) ?_; conv => whnf)
          | (refine arI trivial (by omega) ?_; conv => whnf)
          | (refine arU trivial (by omega) ?_; conv => whnf)
          | (refine arB trivial (by omega) ?_; conv => whnf)
          | (refine drawI (by decide +kernel) ?_; conv => whnf)
          | (refine drawR (by decide +kernel) ?_; conv => whnf)
          | (refine boxP rfl ?_; conv => whnf)
          | (refine appI _ rfl (by first | omega | (dsimp only; omega) | (simp only [List.length_cons, List.length_nil, List.length_append]; omega)) ?_; conv => whnf)
          | (refine rowSetI _ rfl ?_; conv => whnf)
          | (refine cmpT (by omega) ?_; conv => whnf)
          | (refine cmpF (by omega) ?_; conv => whnf)
          | (refine cmpI (fun _ => ?_) (fun _ => ?_) <;> conv => whnf))
      refine WPc.loop (fun i : Nat => i ≤ m) (fun i => ((.int .i64 ((2 * m + 1 : Nat) : Int)) :: .top :: .top :: (.row 103 (preS (2 * m + 1) i).length 1) :: (.int .i64 ((2 * i + 1 : Nat) : Int)) :: T 50)) (fun i => Mem.ofL [(103, rowL (preS (2 * m + 1) i))]) (fun i => m - i) 0 (by omega) (Sub.by_ [(103, .nil 1)] _ 400 rfl ⟨rfl, trivial⟩ (by repeat' (first | exact True.intro | exact rfl | (refine And.intro ?_ ?_) | ((conv => whnf); omega) | ((conv => whnf); simp only [List.length_append, List.length_cons, List.length_nil]; done) | ((conv => whnf); simp only [List.length_append, List.length_cons, List.length_nil]; omega)))) ?_
      intro i hi
      refine codeK_ok tt_ok mx_ok _ _ _ _ ?_
      conv => whnf
      repeat' (first
          | (refine needI (by first | omega | (dsimp only; omega)) ?_; conv => whnf)
          | (refine arI trivial (by omega) ?_; conv => whnf)
          | (refine arU trivial (by omega) ?_; conv => whnf)
          | (refine arB trivial (by omega) ?_; conv => whnf)
          | (refine drawI (by decide +kernel) ?_; conv => whnf)
          | (refine drawR (by decide +kernel) ?_; conv => whnf)
          | (refine boxP rfl ?_; conv => whnf)
          | (refine appI _ rfl (by first | omega | (dsimp only; omega) | (simp only [List.length_cons, List.length_nil, List.length_append]; omega)) ?_; conv => whnf)
          | (refine rowSetI _ rfl ?_; conv => whnf)
          | (refine cmpT (by omega) ?_; conv => whnf)
          | (refine cmpF (by omega) ?_; conv => whnf)
          | (refine cmpI (fun _ => ?_) (fun _ => ?_) <;> conv => whnf))
      · (refine Spec.of_pure (n := 5) (ih i (by omega) (by omega)) rfl ?_; rintro _ rfl; conv => whnf)
        repeat' (first
            | (refine needI (by first | omega | (dsimp only; omega)) ?_; conv => whnf)
            | (refine arI trivial (by omega) ?_; conv => whnf)
            | (refine arU trivial (by omega) ?_; conv => whnf)
            | (refine arB trivial (by omega) ?_; conv => whnf)
            | (refine drawI (by decide +kernel) ?_; conv => whnf)
            | (refine drawR (by decide +kernel) ?_; conv => whnf)
            | (refine boxP rfl ?_; conv => whnf)
            | (refine appI _ rfl (by first | omega | (dsimp only; omega) | (simp only [List.length_cons, List.length_nil, List.length_append]; omega)) ?_; conv => whnf)
            | (refine rowSetI _ rfl ?_; conv => whnf)
            | (refine cmpT (by omega) ?_; conv => whnf)
            | (refine cmpF (by omega) ?_; conv => whnf)
            | (refine cmpI (fun _ => ?_) (fun _ => ?_) <;> conv => whnf))
        have hA := shpT_le (n := 2 * i + 1) (by omega)
        have hB := shpT_le (n := 2 * (m - 1 - i) + 1) (by omega)
        have eB : 2 * m + 1 - 1 - (2 * i + 1) = 2 * (m - 1 - i) + 1 := by omega
        have hsucc := preS_succ (2 * m + 1) i
        have hpl := preS_len (n := 2 * m + 1) (by omega) i (by omega)
        rw [eB] at hsucc
        have ihB := ih (m - 1 - i) (by omega) (by omega)
        have eN : ((2 * m + 1 : Nat) : Int) - 1 - ((2 * i + 1 : Nat) : Int) = ((2 * (m - 1 - i) + 1 : Nat) : Int) := by omega
        rw [eN]
        (refine Spec.of_pure (n := 5) (ihB) rfl ?_; rintro _ rfl; conv => whnf)
        generalize shpT (2 * i + 1) = A at hA hsucc ⊢
        generalize shpT (2 * (m - 1 - i) + 1) = B at hB hsucc ⊢
        generalize preS (2 * m + 1) i = out at hsucc hpl ⊢
        refine WPc.loop (fun p : Nat => p ≤ A.length) (fun p => ((.int .i64 ((2 * m + 1 : Nat) : Int)) :: .top :: .top :: (.row 103 (out ++ cross (A.take p) B).length 1) :: (.int .i64 ((2 * i + 1 : Nat) : Int)) :: (.sl [] encL A) :: (.sl [] encL B) :: (.int .i64 (p : Int)) :: T 47)) (fun p => Mem.ofL [(103, rowL (out ++ cross (A.take p) B))]) (fun p => A.length - p) 0 (by omega) (Sub.by_ [(103, .old 103)] _ 400 rfl ⟨rowL_eq (by simp [cross]), trivial⟩ (by simp only [List.take_zero, cross, List.flatMap_nil, List.append_nil]; repeat' (first | exact True.intro | exact rfl | (refine And.intro ?_ ?_) | ((conv => whnf); omega) | ((conv => whnf); simp only [List.length_append, List.length_cons, List.length_nil]; done) | ((conv => whnf); simp only [List.length_append, List.length_cons, List.length_nil]; omega)))) ?_
        intro p hp
        refine codeK_ok tt_ok mx_ok _ _ _ _ ?_
        conv => whnf
        repeat' (first
            | (refine needI (by first | omega | (dsimp only; omega)) ?_; conv => whnf)
            | (refine arI trivial (by omega) ?_; conv => whnf)
            | (refine arU trivial (by omega) ?_; conv => whnf)
            | (refine arB trivial (by omega) ?_; conv => whnf)
            | (refine drawI (by decide +kernel) ?_; conv => whnf)
            | (refine drawR (by decide +kernel) ?_; conv => whnf)
            | (refine boxP rfl ?_; conv => whnf)
            | (refine appI _ rfl (by first | omega | (dsimp only; omega) | (simp only [List.length_cons, List.length_nil, List.length_append]; omega)) ?_; conv => whnf)
            | (refine rowSetI _ rfl ?_; conv => whnf)
            | (refine cmpT (by omega) ?_; conv => whnf)
            | (refine cmpF (by omega) ?_; conv => whnf)
            | (refine cmpI (fun _ => ?_) (fun _ => ?_) <;> conv => whnf))
        · have hct := cross_take A B p (by omega)
          have hcl := cross_len (A.take p) B
          have hcl2 : (A.take p).length * B.length ≤ 5 * 5 := Nat.mul_le_mul (by simp; omega) hB.1
          have hal : (A.getD p []).length ≤ 8 := hA.2 _ (List.mem_of_getElem? (getD_of_lt (d := []) (l := A) (n := p) (by omega)))
          generalize cross (A.take p) B = base at hct hcl ⊢
          refine WPc.loop (fun q : Nat => q ≤ B.length) (fun q => ((.int .i64 ((2 * m + 1 : Nat) : Int)) :: .top :: .top :: (.row 103 (out ++ base ++ (B.take q).map fun b => 2 :: (A.getD p [] ++ b)).length 1) :: (.int .i64 ((2 * i + 1 : Nat) : Int)) :: (.sl [] encL A) :: (.sl [] encL B) :: (.int .i64 (p : Int)) :: (.int .i64 (q : Int)) :: T 46)) (fun q => Mem.ofL [(103, rowL (out ++ base ++ (B.take q).map fun b => 2 :: (A.getD p [] ++ b)))]) (fun q => B.length - q) 0 (by omega) (Sub.by_ [(103, .old 103)] _ 400 rfl ⟨rowL_eq (by simp), trivial⟩ (by simp only [List.take_zero, List.map_nil, List.append_nil]; repeat' (first | exact True.intro | exact rfl | (refine And.intro ?_ ?_) | ((conv => whnf); omega) | ((conv => whnf); simp only [List.length_append, List.length_cons, List.length_nil]; done) | ((conv => whnf); simp only [List.length_append, List.length_cons, List.length_nil]; omega)))) ?_
          intro q hq
          refine codeK_ok tt_ok mx_ok _ _ _ _ ?_
          conv => whnf
          refine cmpI (fun h3 => ?_) (fun h3 => ?_) <;> conv => whnf
          · have hbl : (B.getD q []).length ≤ 8 := hB.2 _ (List.mem_of_getElem? (getD_of_lt (d := []) (l := B) (n := q) (by omega)))
            have hmt := map_take B (fun b => 2 :: (A.getD p [] ++ b)) q (by omega)
            have hl3 : (out ++ base ++ (B.take q).map fun b => 2 :: (A.getD p [] ++ b)).length ≤ 200 := by
              simp only [List.length_append, List.length_map, List.length_take]; omega
            generalize hX : (out ++ base ++ (B.take q).map fun b => 2 :: (A.getD p [] ++ b)) = X at hl3 ⊢
            refine needI (by omega) ?_
            conv => whnf
            simp only [Int.toNat_natCast]
            repeat' (first
                | (refine needI (by first | omega | (dsimp only; omega)) ?_; conv => whnf)
                | (refine arI trivial (by omega) ?_; conv => whnf)
                | (refine arU trivial (by omega) ?_; conv => whnf)
                | (refine arB trivial (by omega) ?_; conv => whnf)
                | (refine drawI (by decide +kernel) ?_; conv => whnf)
                | (refine drawR (by decide +kernel) ?_; conv => whnf)
                | (refine boxP rfl ?_; conv => whnf)
                | (refine appI _ rfl (by first | omega | (dsimp only; omega) | (simp only [List.length_cons, List.length_nil, List.length_append]; omega)) ?_; conv => whnf)
                | (refine rowSetI _ rfl ?_; conv => whnf)
                | (refine cmpT (by omega) ?_; conv => whnf)
                | (refine cmpF (by omega) ?_; conv => whnf)
                | (refine cmpI (fun _ => ?_) (fun _ => ?_) <;> conv => whnf))
            simp only [Int.toNat_natCast]
            repeat' (first
                | (refine needI (by first | omega | (dsimp only; omega)) ?_; conv => whnf)
                | (refine arI trivial (by omega) ?_; conv => whnf)
                | (refine arU trivial (by omega) ?_; conv => whnf)
                | (refine arB trivial (by omega) ?_; conv => whnf)
                | (refine drawI (by decide +kernel) ?_; conv => whnf)
                | (refine drawR (by decide +kernel) ?_; conv => whnf)
                | (refine boxP rfl ?_; conv => whnf)
                | (refine appI _ rfl (by first | omega | (dsimp only; omega) | (simp only [List.length_cons, List.length_nil, List.length_append]; omega)) ?_; conv => whnf)
                | (refine rowSetI _ rfl ?_; conv => whnf)
                | (refine cmpT (by omega) ?_; conv => whnf)
                | (refine cmpF (by omega) ?_; conv => whnf)
                | (refine cmpI (fun _ => ?_) (fun _ => ?_) <;> conv => whnf))
            refine bldI [] encL [[2] ++ A.getD p [] ++ B.getD q []] rfl ?_
            conv => whnf
            repeat' (first
                | (refine needI (by first | omega | (dsimp only; omega)) ?_; conv => whnf)
                | (refine arI trivial (by omega) ?_; conv => whnf)
                | (refine arU trivial (by omega) ?_; conv => whnf)
                | (refine arB trivial (by omega) ?_; conv => whnf)
                | (refine drawI (by decide +kernel) ?_; conv => whnf)
                | (refine drawR (by decide +kernel) ?_; conv => whnf)
                | (refine boxP rfl ?_; conv => whnf)
                | (refine appI _ rfl (by first | omega | (dsimp only; omega) | (simp only [List.length_cons, List.length_nil, List.length_append]; omega)) ?_; conv => whnf)
                | (refine rowSetI _ rfl ?_; conv => whnf)
                | (refine cmpT (by omega) ?_; conv => whnf)
                | (refine cmpF (by omega) ?_; conv => whnf)
                | (refine cmpI (fun _ => ?_) (fun _ => ?_) <;> conv => whnf))
            have hq1 : (out ++ base ++ (B.take (q + 1)).map fun b => 2 :: (A.getD p [] ++ b)) = X ++ [[2] ++ A.getD p [] ++ B.getD q []] := by rw [hmt, ← hX]; simp
            refine ⟨q + 1, ?_, by omega, Nat.sub_lt_sub_left (by omega) (by omega)⟩
            simp only [hq1]
            exact Sub.by_ [(103, .old 53)] _ 400 rfl ⟨rfl, trivial⟩ (by repeat' (first | exact True.intro | exact rfl | (refine And.intro ?_ ?_) | ((conv => whnf); omega) | ((conv => whnf); simp only [List.length_append, List.length_cons, List.length_nil]; done) | ((conv => whnf); simp only [List.length_append, List.length_cons, List.length_nil]; omega)))
          · have hq2 : q = B.length := by omega
            have hp1 : out ++ base ++ ((B.take q).map fun b => 2 :: (A.getD p [] ++ b)) = out ++ cross (A.take (p + 1)) B := by
              rw [hct, hq2, List.take_length, List.append_assoc]
            rw [hp1]
            repeat' (first
                | (refine needI (by first | omega | (dsimp only; omega)) ?_; conv => whnf)
                | (refine arI trivial (by omega) ?_; conv => whnf)
                | (refine arU trivial (by omega) ?_; conv => whnf)
                | (refine arB trivial (by omega) ?_; conv => whnf)
                | (refine drawI (by decide +kernel) ?_; conv => whnf)
                | (refine drawR (by decide +kernel) ?_; conv => whnf)
                | (refine boxP rfl ?_; conv => whnf)
                | (refine appI _ rfl (by first | omega | (dsimp only; omega) | (simp only [List.length_cons, List.length_nil, List.length_append]; omega)) ?_; conv => whnf)
                | (refine rowSetI _ rfl ?_; conv => whnf)
                | (refine cmpT (by omega) ?_; conv => whnf)
                | (refine cmpF (by omega) ?_; conv => whnf)
                | (refine cmpI (fun _ => ?_) (fun _ => ?_) <;> conv => whnf))
            refine ⟨p + 1, ?_, by omega, Nat.sub_lt_sub_left (by omega) (by omega)⟩
            exact Sub.by_ [(103, .old 103)] _ 400 rfl ⟨rfl, trivial⟩ (by repeat' (first | exact True.intro | exact rfl | (refine And.intro ?_ ?_) | ((conv => whnf); omega) | ((conv => whnf); simp only [List.length_append, List.length_cons, List.length_nil]; done) | ((conv => whnf); simp only [List.length_append, List.length_cons, List.length_nil]; omega)))
        · have hp2 : p = A.length := by omega
          rw [hp2, List.take_length, ← hsucc]
          refine ⟨i + 1, ?_, by omega, Nat.sub_lt_sub_left (by omega) (by omega)⟩
          exact Sub.by_ [(103, .old 103)] _ 400 rfl ⟨rfl, trivial⟩ (by repeat' (first | exact True.intro | exact rfl | (refine And.intro ?_ ?_) | ((conv => whnf); omega) | ((conv => whnf); simp only [List.length_append, List.length_cons, List.length_nil]; done) | ((conv => whnf); simp only [List.length_append, List.length_cons, List.length_nil]; omega)))
      · obtain rfl : i = m := by omega
        rw [preS_shpT i (by simp; omega)]
        exact ⟨rfl, rfl⟩

end Go.Proofs.Ytihligeggkpolaa
