/- what a shape is, and the law that all shapes are listed -/
import Derived.Test.YtihligeggkpolaaFnH
namespace Go.Proofs.Ytihligeggkpolaa
set_option maxRecDepth 100000

/-- a shape, read with n open places -/
def shpB : Int → List Int → Bool
  | n, [] => decide (n = 0)
  | n, x :: xs => if n = 0 then false else if x ≠ 0 ∧ x ≠ 2 then false else shpB (n + (x - 1)) xs

theorem drop_at {l : List Int} {i : Nat} (h : i < l.length) : l.drop i = l.getD i 0 :: l.drop (i + 1) := by
  rw [List.drop_eq_getElem_cons h, List.getD_eq_getElem?_getD, List.getElem?_eq_getElem h]
  rfl

theorem isShapeF (l : List Int) (hl : l.length ≤ 1000) : PSpec Try.prog 11 [.sl 0 encI l] (fun u => u = .bool (shpB 1 l)) := by
  refine PSpec.intro tt_ok mx_ok Try.func11 rfl (by decide) ?_; (conv => whnf)
  refine WPc.loop (fun x : Nat × Int => x.1 ≤ l.length ∧ -1 - x.1 ≤ x.2 ∧ x.2 ≤ 1 + x.1 ∧ shpB 1 l = shpB x.2 (l.drop x.1)) (fun x => ((.sl 0 encI l) :: .top :: .top :: (.int .i64 x.2) :: (.int .i64 (x.1 : Int)) :: T 31)) (fun _ => Mem.ofL []) (fun x => l.length - x.1) (0, 1) (by simp) (Sub.by_ [] [] 400 rfl trivial (by repeat' (first | exact True.intro | exact rfl | (refine And.intro ?_ ?_) | ((conv => whnf); omega) | ((conv => whnf); simp only [List.length_append, List.length_cons, List.length_nil]; done) | ((conv => whnf); simp only [List.length_append, List.length_cons, List.length_nil]; omega)))) ?_
  rintro ⟨i, n⟩ ⟨hi, h1, h2, hs⟩
  dsimp only at hi h1 h2 hs
  refine codeK_ok tt_ok mx_ok _ _ _ _ ?_
  conv => whnf
  repeat' (first
      | (refine needI (by first | omega | (dsimp only; omega)) ?_; conv => whnf)
      | (refine arI trivial (by omega) ?_; conv => whnf)
      | (refine arU trivial (by omega) ?_; conv => whnf)
      | (refine arB trivial (by omega) ?_; conv => whnf)
      | (refine drawI (by decide +kernel) ?_; conv => whnf)
      | (refine drawR (by decide +kernel) ?_; conv => whnf)
      | (refine boxP rfl ?_; conv => whnf)
      | (refine appI _ rfl (by first | omega | (dsimp only; omega) | (simp only [List.length_cons, List.length_nil, List.length_append]; omega)) ?_; conv => whnf)
      | (refine rowSetI _ rfl ?_; conv => whnf)
      | (refine cmpT (by omega) ?_; conv => whnf)
      | (refine cmpF (by omega) ?_; conv => whnf)
      | (refine cmpI (fun _ => ?_) (fun _ => ?_) <;> conv => whnf))
  · rename_i hlt h0
    dsimp only at hlt h0
    rw [hs, drop_at (by omega), shpB, if_pos h0]
    exact ⟨rfl, rfl⟩
  · rename_i hlt h0 ha hb
    dsimp only at hlt h0
    rw [Int.toNat_natCast] at ha hb
    rw [hs, drop_at (by omega), shpB, if_neg h0, if_pos ⟨ha, hb⟩]
    exact ⟨rfl, rfl⟩
  · rename_i hlt h0 ha hb
    dsimp only at hlt h0
    rw [Int.toNat_natCast] at ha hb
    have hb' : l.getD i 0 = 2 := by simpa using hb
    refine ⟨(i + 1, n + (l.getD i 0 - 1)), (Sub.by_ [] [] 400 rfl trivial (by repeat' (first | exact True.intro | exact rfl | (refine And.intro ?_ ?_) | ((conv => whnf); omega) | ((conv => whnf); simp only [List.length_append, List.length_cons, List.length_nil]; done) | ((conv => whnf); simp only [List.length_append, List.length_cons, List.length_nil]; omega)))), ⟨by omega, by dsimp only; omega, by dsimp only; omega, ?_⟩, Nat.sub_lt_sub_left (by dsimp only; omega) (by dsimp only; omega)⟩
    dsimp only
    rw [hs, drop_at (by omega), shpB, if_neg h0, if_neg (by rw [hb']; decide)]
  · rename_i hlt h0 ha
    dsimp only at hlt h0
    rw [Int.toNat_natCast] at ha
    have hb' : l.getD i 0 = 0 := by simpa using ha
    refine ⟨(i + 1, n + (l.getD i 0 - 1)), (Sub.by_ [] [] 400 rfl trivial (by repeat' (first | exact True.intro | exact rfl | (refine And.intro ?_ ?_) | ((conv => whnf); omega) | ((conv => whnf); simp only [List.length_append, List.length_cons, List.length_nil]; done) | ((conv => whnf); simp only [List.length_append, List.length_cons, List.length_nil]; omega)))), ⟨by omega, by dsimp only; omega, by dsimp only; omega, ?_⟩, Nat.sub_lt_sub_left (by dsimp only; omega) (by dsimp only; omega)⟩
    dsimp only
    rw [hs, drop_at (by omega), shpB, if_neg h0, if_neg (by rw [hb']; decide)]
  · rename_i hlt h0
    dsimp only at hlt h0
    rw [hs, List.drop_eq_nil_of_le (by omega), shpB, decide_eq_true h0]
    exact ⟨rfl, rfl⟩
  · rename_i hlt h0
    dsimp only at hlt h0
    rw [hs, List.drop_eq_nil_of_le (by omega), shpB, decide_eq_false h0]
    exact ⟨rfl, rfl⟩

/-- all lists of twos and zeros of a length -/
def zt : Nat → List (List Int)
  | 0 => [[]]
  | n + 1 => (zt n).map (0 :: ·) ++ (zt n).map (2 :: ·)

theorem mem_zt : ∀ (l : List Int) (n : Int), shpB n l = true → l ∈ zt l.length
  | [], _, _ => by simp [zt]
  | x :: xs, n, h => by
    rw [shpB] at h
    split at h
    · cases h
    · split at h
      · cases h
      · rename_i hx
        have := mem_zt xs _ h
        have hx : x = 0 ∨ x = 2 := by omega
        simp only [zt, List.length_cons, List.mem_append, List.mem_map]
        rcases hx with rfl | rfl
        · exact .inl ⟨xs, this, rfl⟩
        · exact .inr ⟨xs, this, rfl⟩

theorem zt_shp : ((List.range 9).all fun k => (zt k).all fun l => !shpB 1 l || (shpT k).contains l || k == 0) = true := by kernel_rfl
theorem shp_zt : ((List.range 9).all fun k => (shpT k).all fun l => shpB 1 l && l.length == k) = true := by kernel_rfl
theorem shp_nodup : ∀ k, k ≤ 8 → (shpT k).Nodup := by decide

theorem shpMem {l : List Int} (h1 : 1 ≤ l.length) (h8 : l.length ≤ 8) : shpB 1 l = decide (l ∈ shpT l.length) := by
  cases h : shpB 1 l with
  | true =>
    have := mem_zt l 1 h
    have k := zt_shp
    rw [List.all_eq_true] at k
    have k := k l.length (by simp; omega)
    rw [List.all_eq_true] at k
    have k := k l this
    simp only [h, Bool.not_true, Bool.false_or, Bool.or_eq_true, beq_iff_eq, List.contains_iff_mem] at k
    rcases k with k | k
    · rw [decide_eq_true k]
    · omega
  | false =>
    symm
    rw [decide_eq_false_iff_not]
    intro hm
    have k := shp_zt
    rw [List.all_eq_true] at k
    have k := k l.length (by simp; omega)
    rw [List.all_eq_true] at k
    have k := k l hm
    simp [h] at k
theorem shpEl {k : Nat} (h : k ≤ 8) {a : List Int} (ha : a ∈ shpT k) : shpB 1 a = true ∧ a.length = k := by
  have e := shp_zt
  rw [List.all_eq_true] at e
  have e := e k (by simp; omega)
  rw [List.all_eq_true] at e
  have e := e a ha
  simpa using e

theorem lawShapesAll (l : List Int) (hm : l.length ≤ 9223372036854775807) : PSpec Try.prog 4 [.sl 0 encI l] (fun u => u = .bool true) := by
  by_cases h1 : 100 < l.length
  · refine PSpec.intro tt_ok mx_ok Try.func4 rfl (by decide) ?_; (conv => whnf)
    refine cmpT (by omega) ?_
    conv => whnf
    (refine Spec.of_pure (n := 5) (knownF) rfl ?_; rintro _ rfl; conv => whnf)
    exact ⟨rfl, rfl⟩
  have hs := unfoldShapesF l.length
  by_cases h2 : (1:Int) ≤ l.length ∧ (l.length:Int) ≤ 8
  · rw [shapesR_in h2, Int.toNat_natCast] at hs
    refine PSpec.intro tt_ok mx_ok Try.func4 rfl (by decide) ?_; (conv => whnf)
    refine cmpF (by omega) ?_
    conv => whnf
    (refine Spec.of_pure (n := 5) (hs) rfl ?_; rintro _ rfl; conv => whnf)
    repeat' (first
        | (refine needI (by first | omega | (dsimp only; omega)) ?_; conv => whnf)
        | (refine arI trivial (by omega) ?_; conv => whnf)
        | (refine arU trivial (by omega) ?_; conv => whnf)
        | (refine arB trivial (by omega) ?_; conv => whnf)
        | (refine drawI (by decide +kernel) ?_; conv => whnf)
        | (refine drawR (by decide +kernel) ?_; conv => whnf)
        | (refine boxP rfl ?_; conv => whnf)
        | (refine appI _ rfl (by first | omega | (dsimp only; omega) | (simp only [List.length_cons, List.length_nil, List.length_append]; omega)) ?_; conv => whnf)
        | (refine rowSetI _ rfl ?_; conv => whnf)
        | (refine cmpT (by omega) ?_; conv => whnf)
        | (refine cmpF (by omega) ?_; conv => whnf)
        | (refine cmpI (fun _ => ?_) (fun _ => ?_) <;> conv => whnf))
    have hlen := shpT_le (n := l.length) (by omega)
    refine WPc.loop (fun i : Nat => i ≤ (shpT l.length).length) (fun i => ((.sl 0 encI l) :: .top :: .top :: (.sl [] encL (shpT l.length)) :: .top :: (.int .i64 ((((shpT l.length).take i).count l : Nat) : Int)) :: (.int .i64 (i : Int)) :: T 70)) (fun _ => Mem.ofL []) (fun i => (shpT l.length).length - i) 0 (by omega) (Sub.by_ [] [] 400 rfl trivial (by repeat' (first | exact True.intro | exact rfl | (refine And.intro ?_ ?_) | ((conv => whnf); omega) | ((conv => whnf); simp only [List.length_append, List.length_cons, List.length_nil]; done) | ((conv => whnf); simp only [List.length_append, List.length_cons, List.length_nil]; omega)))) ?_
    intro i hi
    refine codeK_ok tt_ok mx_ok _ _ _ _ ?_
    conv => whnf
    repeat' (first
        | (refine needI (by first | omega | (dsimp only; omega)) ?_; conv => whnf)
        | (refine arI trivial (by omega) ?_; conv => whnf)
        | (refine arU trivial (by omega) ?_; conv => whnf)
        | (refine arB trivial (by omega) ?_; conv => whnf)
        | (refine drawI (by decide +kernel) ?_; conv => whnf)
        | (refine drawR (by decide +kernel) ?_; conv => whnf)
        | (refine boxP rfl ?_; conv => whnf)
        | (refine appI _ rfl (by first | omega | (dsimp only; omega) | (simp only [List.length_cons, List.length_nil, List.length_append]; omega)) ?_; conv => whnf)
        | (refine rowSetI _ rfl ?_; conv => whnf)
        | (refine cmpT (by omega) ?_; conv => whnf)
        | (refine cmpF (by omega) ?_; conv => whnf)
        | (refine cmpI (fun _ => ?_) (fun _ => ?_) <;> conv => whnf))
    · have hmem : (shpT l.length).getD i [] ∈ shpT l.length := List.mem_of_getElem? (getD_of_lt (d := []) (l := shpT l.length) (n := i) (by omega))
      obtain ⟨ha, hb⟩ := shpEl (by omega) hmem
      have hb2 : ((shpT l.length).getD (i : Int).toNat []).length = l.length := hb
      have hI := isShapeF ((shpT l.length).getD i []) (by omega)
      rw [ha] at hI
      have htk : (shpT l.length).take (i + 1) = (shpT l.length).take i ++ [(shpT l.length).getD i []] := by
        rw [List.take_add_one, getD_of_lt (d := []) (l := shpT l.length) (n := i) (by omega)]
        rfl
      have hct : ((shpT l.length).take i).count l ≤ 5 := Nat.le_trans List.count_le_length (by simp; omega)
      (refine Spec.of_pure (n := 5) (hI) rfl ?_; rintro _ rfl; conv => whnf)
      repeat' (first
          | (refine needI (by first | omega | (dsimp only; omega)) ?_; conv => whnf)
          | (refine arI trivial (by omega) ?_; conv => whnf)
          | (refine arU trivial (by omega) ?_; conv => whnf)
          | (refine arB trivial (by omega) ?_; conv => whnf)
          | (refine drawI (by decide +kernel) ?_; conv => whnf)
          | (refine drawR (by decide +kernel) ?_; conv => whnf)
          | (refine boxP rfl ?_; conv => whnf)
          | (refine appI _ rfl (by first | omega | (dsimp only; omega) | (simp only [List.length_cons, List.length_nil, List.length_append]; omega)) ?_; conv => whnf)
          | (refine rowSetI _ rfl ?_; conv => whnf)
          | (refine cmpT (by omega) ?_; conv => whnf)
          | (refine cmpF (by omega) ?_; conv => whnf)
          | (refine cmpI (fun _ => ?_) (fun _ => ?_) <;> conv => whnf))
      by_cases hc : (shpT l.length).getD i [] = l
      · have hS := refSameInts ((shpT l.length).getD i []) l (by omega)
        rw [decide_eq_true (by rw [hc]; exact cmpL_self _)] at hS
        have hcnt : ((((shpT l.length).take (i + 1)).count l : Nat) : Int) = (((shpT l.length).take i).count l : Nat) + 1 := by
          rw [htk, List.count_append, hc]
          simp
        (refine Spec.of_pure (n := 5) (hS) rfl ?_; rintro _ rfl; conv => whnf)
        repeat' (first
            | (refine needI (by first | omega | (dsimp only; omega)) ?_; conv => whnf)
            | (refine arI trivial (by omega) ?_; conv => whnf)
            | (refine arU trivial (by omega) ?_; conv => whnf)
            | (refine arB trivial (by omega) ?_; conv => whnf)
            | (refine drawI (by decide +kernel) ?_; conv => whnf)
            | (refine drawR (by decide +kernel) ?_; conv => whnf)
            | (refine boxP rfl ?_; conv => whnf)
            | (refine appI _ rfl (by first | omega | (dsimp only; omega) | (simp only [List.length_cons, List.length_nil, List.length_append]; omega)) ?_; conv => whnf)
            | (refine rowSetI _ rfl ?_; conv => whnf)
            | (refine cmpT (by omega) ?_; conv => whnf)
            | (refine cmpF (by omega) ?_; conv => whnf)
            | (refine cmpI (fun _ => ?_) (fun _ => ?_) <;> conv => whnf))
        exact ⟨i + 1, (Sub.by_ [] [] 400 rfl trivial (by repeat' (first | exact True.intro | exact rfl | (refine And.intro ?_ ?_) | ((conv => whnf); omega) | ((conv => whnf); simp only [List.length_append, List.length_cons, List.length_nil]; done) | ((conv => whnf); simp only [List.length_append, List.length_cons, List.length_nil]; omega)))), by omega, Nat.sub_lt_sub_left (by omega) (by omega)⟩
      · have hS := refSameInts ((shpT l.length).getD i []) l (by omega)
        rw [decide_eq_false (fun h => hc (cmpL_eq h))] at hS
        have hcnt : ((((shpT l.length).take (i + 1)).count l : Nat) : Int) = (((shpT l.length).take i).count l : Nat) := by
          rw [htk, List.count_append, List.count_singleton]
          simp [beq_iff_eq, -List.getD_eq_getElem?_getD, hc]
        (refine Spec.of_pure (n := 5) (hS) rfl ?_; rintro _ rfl; conv => whnf)
        repeat' (first
            | (refine needI (by first | omega | (dsimp only; omega)) ?_; conv => whnf)
            | (refine arI trivial (by omega) ?_; conv => whnf)
            | (refine arU trivial (by omega) ?_; conv => whnf)
            | (refine arB trivial (by omega) ?_; conv => whnf)
            | (refine drawI (by decide +kernel) ?_; conv => whnf)
            | (refine drawR (by decide +kernel) ?_; conv => whnf)
            | (refine boxP rfl ?_; conv => whnf)
            | (refine appI _ rfl (by first | omega | (dsimp only; omega) | (simp only [List.length_cons, List.length_nil, List.length_append]; omega)) ?_; conv => whnf)
            | (refine rowSetI _ rfl ?_; conv => whnf)
            | (refine cmpT (by omega) ?_; conv => whnf)
            | (refine cmpF (by omega) ?_; conv => whnf)
            | (refine cmpI (fun _ => ?_) (fun _ => ?_) <;> conv => whnf))
        exact ⟨i + 1, (Sub.by_ [] [] 400 rfl trivial (by repeat' (first | exact True.intro | exact rfl | (refine And.intro ?_ ?_) | ((conv => whnf); omega) | ((conv => whnf); simp only [List.length_append, List.length_cons, List.length_nil]; done) | ((conv => whnf); simp only [List.length_append, List.length_cons, List.length_nil]; omega)))), by omega, Nat.sub_lt_sub_left (by omega) (by omega)⟩
    · rename_i hx hct
      obtain rfl : i = (shpT l.length).length := by omega
      have hct' := hct
      rw [List.take_length] at hct'
      have hin : l ∈ shpT l.length := List.count_pos_iff.1 (by omega)
      have hI := isShapeF l (by omega)
      rw [shpMem (by omega) (by omega), decide_eq_true hin] at hI
      (refine Spec.of_pure (n := 5) (hI) rfl ?_; rintro _ rfl; conv => whnf)
      repeat' (first
          | (refine needI (by first | omega | (dsimp only; omega)) ?_; conv => whnf)
          | (refine arI trivial (by omega) ?_; conv => whnf)
          | (refine arU trivial (by omega) ?_; conv => whnf)
          | (refine arB trivial (by omega) ?_; conv => whnf)
          | (refine drawI (by decide +kernel) ?_; conv => whnf)
          | (refine drawR (by decide +kernel) ?_; conv => whnf)
          | (refine boxP rfl ?_; conv => whnf)
          | (refine appI _ rfl (by first | omega | (dsimp only; omega) | (simp only [List.length_cons, List.length_nil, List.length_append]; omega)) ?_; conv => whnf)
          | (refine rowSetI _ rfl ?_; conv => whnf)
          | (refine cmpT (by omega) ?_; conv => whnf)
          | (refine cmpF (by omega) ?_; conv => whnf)
          | (refine cmpI (fun _ => ?_) (fun _ => ?_) <;> conv => whnf))
      (refine Spec.of_pure (n := 5) (knownF) rfl ?_; rintro _ rfl; conv => whnf)
      exact ⟨rfl, rfl⟩
    · rename_i hx hct
      obtain rfl : i = (shpT l.length).length := by omega
      have hct' := hct
      rw [List.take_length] at hct'
      have hc1 : (shpT l.length).count l ≤ 1 := List.nodup_iff_count.1 (shp_nodup l.length (by omega)) l
      have hc2 : ((shpT l.length).take (shpT l.length).length).count l ≤ 1 := by rw [List.take_length]; exact hc1
      have hin : ¬ l ∈ shpT l.length := fun h => by
        have := List.count_pos_iff.2 h
        omega
      have hI := isShapeF l (by omega)
      rw [shpMem (by omega) (by omega), decide_eq_false hin] at hI
      (refine Spec.of_pure (n := 5) (hI) rfl ?_; rintro _ rfl; conv => whnf)
      repeat' (first
          | (refine needI (by first | omega | (dsimp only; omega)) ?_; conv => whnf)
          | (refine arI trivial (by omega) ?_; conv => whnf)
          | (refine arU trivial (by omega) ?_; conv => whnf)
          | (refine arB trivial (by omega) ?_; conv => whnf)
          | (refine drawI (by decide +kernel) ?_; conv => whnf)
          | (refine drawR (by decide +kernel) ?_; conv => whnf)
          | (refine boxP rfl ?_; conv => whnf)
          | (refine appI _ rfl (by first | omega | (dsimp only; omega) | (simp only [List.length_cons, List.length_nil, List.length_append]; omega)) ?_; conv => whnf)
          | (refine rowSetI _ rfl ?_; conv => whnf)
          | (refine cmpT (by omega) ?_; conv => whnf)
          | (refine cmpF (by omega) ?_; conv => whnf)
          | (refine cmpI (fun _ => ?_) (fun _ => ?_) <;> conv => whnf))
      (refine Spec.of_pure (n := 5) (knownF) rfl ?_; rintro _ rfl; conv => whnf)
      exact ⟨rfl, rfl⟩
  · rw [shapesR_out h2] at hs
    refine PSpec.intro tt_ok mx_ok Try.func4 rfl (by decide) ?_; (conv => whnf)
    refine cmpF (by omega) ?_
    conv => whnf
    (refine Spec.of_pure (n := 5) (hs) rfl ?_; rintro _ rfl; conv => whnf)
    repeat' (first
        | (refine needI (by first | omega | (dsimp only; omega)) ?_; conv => whnf)
        | (refine arI trivial (by omega) ?_; conv => whnf)
        | (refine arU trivial (by omega) ?_; conv => whnf)
        | (refine arB trivial (by omega) ?_; conv => whnf)
        | (refine drawI (by decide +kernel) ?_; conv => whnf)
        | (refine drawR (by decide +kernel) ?_; conv => whnf)
        | (refine boxP rfl ?_; conv => whnf)
        | (refine appI _ rfl (by first | omega | (dsimp only; omega) | (simp only [List.length_cons, List.length_nil, List.length_append]; omega)) ?_; conv => whnf)
        | (refine rowSetI _ rfl ?_; conv => whnf)
        | (refine cmpT (by omega) ?_; conv => whnf)
        | (refine cmpF (by omega) ?_; conv => whnf)
        | (refine cmpI (fun _ => ?_) (fun _ => ?_) <;> conv => whnf))
    · (refine Spec.of_pure (n := 5) (knownF) rfl ?_; rintro _ rfl; conv => whnf)
      exact ⟨rfl, rfl⟩
    · (refine Spec.of_pure (n := 5) (knownF) rfl ?_; rintro _ rfl; conv => whnf)
      exact ⟨rfl, rfl⟩
    · rename_i h
      exact absurd rfl h

end Go.Proofs.Ytihligeggkpolaa
