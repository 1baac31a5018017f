
/-
  Contracts: the derivation of a bad row, by the program.
-/
import Derived.Test.YtgjmbmdaaahmkaaFxK
set_option linter.unusedVariables false
set_option linter.unusedSimpArgs false
namespace Go.Proofs.Ytgjmbmdaaahmkaa
set_option maxRecDepth 100000
set_option maxHeartbeats 32000000

def fkL (A B : List Int) : List (Nat × Blk) := [(7001, .box 66 [.row 7002 A.length 1, .row 7003 B.length 1, .int .i64 1]), (7002, .row 3 0 encI A), (7003, .row 3 0 encI B)]
def fkN (A B : List Int) : List (Nat × Blk) := [(7001, .box 66 [.row 7004 A.length 1, .row 7005 B.length 1, .int .i64 1]), (7002, .dead), (7003, .dead), (7004, .row 3 0 encI A), (7005, .row 3 0 encI B)]
def fkU (n : Nat) (l : List (Int × Int)) (v k : Int) : List (Int × Int) := if (n : Int) ≤ v ∧ 0 < k then l ++ [(v - n, k)] else l
def fsL (l : List (Int × Int)) : List Int := l.map (·.1)
def snL (l : List (Int × Int)) : List Int := l.map (·.2)
def lmV : LMap := [(7001, .old 7001), (7002, .old 7002), (7003, .old 7003), (7004, .old 25), (7005, .old 31)]
def lmU : LMap := [(7001, .old 7001), (7002, .old 7002), (7003, .old 7003), (7004, .old 7002), (7005, .old 7003)]
theorem useF (n : Nat) (t : Tab) (bad : Int) (l : List (Int × Int)) (v k : Int) (hl : l.length ≤ 100000) (hn : n ≤ 1000) (hv : 0 ≤ v ∧ v ≤ 1000000) : Spec Try.prog 43 [.int .i64 v, .int .i64 k, .pd [.pd (encTb n t bad)], .ptr 7001 0] (Mem.ofL (fkL (fsL l) (snL l)))
    (fun u M => u = .tup [] ∧ M = Mem.ofL (fkN (fsL (fkU n l v k)) (snL (fkU n l v k)))) := by
  refine Spec.renorm 400 (R := fun u M => u = .tup [] ∧ (memR lmU 400 M (fkN (fsL (fkU n l v k)) (snL (fkU n l v k))) ∨ memR lmV 400 M (fkN (fsL (fkU n l v k)) (snL (fkU n l v k))))) ?_ ?_
  · refine Spec.intro tt_ok mx_ok (fkL (fsL l) (snL l)) Try.func43 rfl (by decide) ?_
    conv => whnf
    refine cmpI (fun h1 => ?_) (fun h1 => ?_) <;> conv => whnf
    · refine cmpI (fun h2 => ?_) (fun h2 => ?_) <;> conv => whnf
      · have e : fkU n l v k = l ++ [(v - n, k)] := if_pos ⟨h1, h2⟩
        have e1 : fsL (fkU n l v k) = fsL l ++ [v - n] := by rw [e]; simp [fsL]
        have e2 : snL (fkU n l v k) = snL l ++ [k] := by rw [e]; simp [snL]
        have l1 : (fsL l).length ≤ 100000 := by simp [fsL]; exact hl
        have l2 : (snL l).length ≤ 100000 := by simp [snL]; exact hl
        rw [e1, e2]
        refine drawG (by decide +kernel) ?_
        conv => whnf
        refine arI trivial (by omega) ?_
        conv => whnf
        refine leakN ?_
        conv => whnf
        refine appI [v - n] rfl (by simp only [List.length_cons, List.length_nil]; omega) ?_
        conv => whnf
        refine appI [k] rfl (by simp only [List.length_cons, List.length_nil]; omega) ?_
        conv => whnf
        exact ⟨rfl, .inr (auto_)⟩
      · have e : fkU n l v k = l := if_neg (fun h => h2 h.2)
        rw [e]
        exact ⟨rfl, .inl (auto_)⟩
    · have e : fkU n l v k = l := if_neg (fun h => h1 h.1)
      rw [e]
      exact ⟨rfl, .inl (auto_)⟩
  · rintro u M' ⟨rfl, hM | hM⟩
    · exact ⟨_, _, .tup [], rfl, hM, trivial, rfl, rfl⟩
    · exact ⟨_, _, .tup [], rfl, hM, trivial, rfl, rfl⟩
def fkX (A B : List Int) : List (Nat × Blk) := [(2, .box 66 [.nilsl, .nilsl, .int .i64 0]), (4, .box 66 [.row 6004 A.length 1, .row 6005 B.length 1, .int .i64 1]), (6004, .row 3 0 encI A), (6005, .row 3 0 encI B)]
def fkC (A B : List Int) : List (Nat × Blk) := [(4, .box 66 [.row 6104 A.length 1, .row 6105 B.length 1, .int .i64 1]), (6004, .dead), (6005, .dead), (6104, .row 3 0 encI A), (6105, .row 3 0 encI B)]
def fkB (A B : List Int) : List (Nat × Blk) := [(4, .box 66 [.row 6004 A.length 1, .row 6005 B.length 1, .int .i64 1]), (6004, .row 3 0 encI A), (6005, .row 3 0 encI B)]
def fkKs (n : Nat) (t : Tab) (bad k : Nat) : List Int := fsL (fkK n t bad k)
def fkKn (n : Nat) (t : Tab) (bad k : Nat) : List Int := snL (fkK n t bad k)
theorem fkK_up (n : Nat) (t : Tab) (bad k : Nat) : fkU n (fkK n t bad k) (t.fre.getD k 0) (0 - (t.cel.getD bad []).getD (k + 1) 0) = fkK n t bad (k + 1) := by rw [Int.zero_sub]; rfl
theorem snL_len (l : List (Int × Int)) : (snL l).length = l.length := by simp [snL]
theorem fsL_len (l : List (Int × Int)) : (fsL l).length = l.length := by simp [fsL]
theorem snL_get (l : List (Int × Int)) (k : Nat) : (snL l).getD k 0 = (l.getD k (0, 0)).2 := by
  unfold snL
  rw [gD, gD, List.getElem?_map]
  cases l[k]? <;> rfl
theorem fkK_rng (n : Nat) (t : Tab) (bad : Nat) (hd : 0 < t.den ∧ t.den ≤ 1073741824) (hcb : ∀ j, j < n + 1 → mostB (cl t bad j)) : ∀ k, k ≤ n → ∀ a ∈ fkK n t bad k, 0 < a.2 ∧ a.2 ≤ 1073741824
  | 0, _, a, ha => by
    rw [fkK, List.mem_singleton] at ha
    subst ha
    unfold fkA
    split <;> exact hd
  | k + 1, hk, a, ha => by
    have hc := hcb (k + 1) (by omega)
    unfold mostB at hc
    rw [fkK] at ha
    split at ha
    · rename_i h
      rcases List.mem_append.1 ha with h1 | h1
      · exact fkK_rng n t bad hd hcb k (by omega) a h1
      · rw [List.mem_singleton] at h1
        subst h1
        dsimp only
        omega
    · exact fkK_rng n t bad hd hcb k (by omega) a ha
theorem fkG_b {l : List (Int × Int)} (h : ∀ a ∈ l, 0 < a.2 ∧ a.2 ≤ 1073741824) : ∀ k, k ≤ l.length → 0 ≤ fkG l k ∧ fkG l k ≤ 1073741824
  | 0, _ => by rw [fkG]; omega
  | k + 1, hk => by
    have h1 := h _ (memD (l := l) (0, 0) (show k < l.length by omega))
    rw [fkG]
    have := Int.gcd_le_natAbs_right (fkG l k) (show (l.getD k (0, 0)).2 ≠ 0 by omega)
    omega
def fkP (n : Nat) (t : Tab) (bad : Nat) (u : AV) : Prop := (∃ d, fkD n t bad = some d ∧ u = .tup [.agg (encDe d), .bool true]) ∨ (fkD n t bad = none ∧ ((∃ d, u = .tup [.agg (encDe d), .bool false]) ∨ u = .tup [.agg [.nilsl, .nilsl, .int .i64 0], .bool false]))
theorem fkK_len (n : Nat) (t : Tab) (bad : Nat) : ∀ k, (fkK n t bad k).length ≤ k + 1
  | 0 => by simp [fkK]
  | k + 1 => by
    have := fkK_len n t bad k
    rw [fkK]; split
    · simp; omega
    · omega
theorem fkA_get (n : Nat) (t : Tab) (r : Nat) : fkK n t r 0 = [fkA n t r] := rfl
theorem farkasF (n m : Nat) (t : Tab) (bad : Nat) (ht : TabS n m t) (hB : TabB m t) (hm : m ≤ 10000) (hn : n ≤ 1000) (hbad : bad < m) (hbs : ∀ i, i < m → 0 ≤ t.bas.getD i 0 ∧ t.bas.getD i 0 ≤ 100000) (hfs : ∀ i, i < n → 0 ≤ t.fre.getD i 0 ∧ t.fre.getD i 0 ≤ 100000)
    (hcb : ∀ j, j < n + 1 → mostB (cl t bad j)) : PSpec Try.prog 28 [.pd (encTb n t bad)] (fkP n t bad) := by
  have hb := ht.bl
  have hf := ht.fl
  have hc := ht.cm
  have hd := hB.dp
  have hcn := ht.cn bad hbad
  have hbb := hbs bad hbad
  refine PSpec.intro tt_ok mx_ok Try.func28 rfl (by decide) ?_; (conv => whnf)
  refine boxP rfl ?_
  conv => whnf
  refine drawI (by decide +kernel) ?_
  conv => whnf
  refine needI (by omega) ?_
  rw [Int.toNat_natCast]
  conv => whnf
  refine cmpI (fun h1 => ?_) (fun h1 => ?_) <;> conv => whnf
  · have hz : fkK n t bad 0 = [(-1 - t.bas.getD bad 0, t.den)] := by rw [fkK, fkA, if_pos h1]
    have z1 : fkKs n t bad 0 = [-1 - t.bas.getD bad 0] := by rw [fkKs, hz]; rfl
    have z2 : fkKn n t bad 0 = [t.den] := by rw [fkKn, hz]; rfl
    refine arI trivial (by omega) ?_
    conv => whnf
    refine needI (by show 1 * 8 ≤ 140737488355328; omega) ?_
    conv => whnf
    refine drawG (by decide +kernel) ?_
    conv => whnf
    refine leakN ?_
    conv => whnf
    refine needI (by show 1 * 8 ≤ 140737488355328; omega) ?_
    conv => whnf
    refine WPc.loopF tt_ok mx_ok (fun k : Nat => k ≤ n) (fun k => [(59, .int .i64 (k : Int)), (35, .top), (36, .top), (44, .top), (45, .top), (31, .top)]) (fun k => fkX (fkKs n t bad k) (fkKn n t bad k)) (fun k => n - k) 0 (Nat.zero_le _) ?_; conv => whnf
    refine ⟨by rw [z1, z2]; exact Sub.by_ [(2, .old 2), (4, .old 4), (6004, .old 36), (6005, .old 45)] _ 400 rfl (auto_) (auto_), ?_⟩
    rintro k hk
    have hkl := fkK_len n t bad k
    conv => whnf
    refine cmpI (fun g1 => ?_) (fun g1 => ?_) <;> conv => whnf
    · have hlt : k < n := by omega
      have ek : ((k : Int) + 1).toNat = k + 1 := by omega
      have hck : -1073741824 ≤ (t.cel.getD bad []).getD (k + 1) 0 ∧ (t.cel.getD bad []).getD (k + 1) 0 ≤ 1073741824 := hcb (k + 1) (by omega)
      have hfk := hfs k hlt
      refine needI (by omega) ?_
      rw [Int.toNat_natCast]
      conv => whnf
      refine drawN .any [81] (by decide +kernel) ?_
      conv => whnf
      refine needI (by omega) ?_
      rw [Int.toNat_natCast]
      conv => whnf
      refine arI trivial (by omega) ?_
      conv => whnf
      refine needI (by omega) ?_
      rw [ek]
      conv => whnf
      refine arI trivial (by omega) ?_
      conv => whnf
      refine Spec.call [(7001, .old 4), (7002, .old 6004), (7003, .old 6005)] (fkL (fkKs n t bad k) (fkKn n t bad k)) 400 rfl (auto_) (auto_) (useF n t bad (fkK n t bad k) (t.fre.getD k 0) (0 - (t.cel.getD bad []).getD (k + 1) 0) (by omega) hn (by omega)) ?_
      rintro u M' ⟨rfl, rfl⟩
      rw [fkK_up]
      refine ⟨[(4, .old 7001), (6004, .old 7002), (6005, .old 7003), (6104, .old 7004), (6105, .old 7005)], fkC (fkKs n t bad (k + 1)) (fkKn n t bad (k + 1)), .tup [], rfl, (auto_), trivial, ?_⟩
      conv => whnf
      repeat' ((first|refine nI ?_|refine aI ?_|refine tI ?_|refine fI ?_|fail);conv => whnf)
      exact ⟨k + 1, Sub.by_ [(2, .old 2), (4, .old 4), (6004, .old 6104), (6005, .old 6105)] _ 400 rfl (auto_) (auto_), by omega, by dsimp only; omega⟩
    · obtain rfl : n = k := by omega
      have hlA : (fkKs n t bad n).length = (fkK n t bad n).length := fsL_len _
      have hlB : (fkKn n t bad n).length = (fkK n t bad n).length := snL_len _
      have hrng := fkK_rng n t bad hd hcb n (Nat.le_refl _)
      have hhd := fkK_head n t bad n
      refine WPc.loopF tt_ok mx_ok (fun k : Nat => k ≤ (fkKn n t bad n).length) (fun k => [(86, .int .i64 (k : Int)), (9, .int .i64 (fkG (fkK n t bad n) k))]) (fun _ => fkX (fkKs n t bad n) (fkKn n t bad n)) (fun k => (fkKn n t bad n).length - k) 0 (Nat.zero_le _) ?_; conv => whnf
      refine ⟨(Sub.id_ 400 rfl auto_ auto_), ?_⟩
      rintro k hk
      have hg := fkG_b hrng k (by omega)
      have hm : ∀ i, i < (fkKn n t bad n).length → 0 < (fkKn n t bad n).getD i 0 ∧ (fkKn n t bad n).getD i 0 ≤ 1073741824 := fun i hi => by
        have e : (fkKn n t bad n).getD i 0 = ((fkK n t bad n).getD i (0, 0)).2 := snL_get _ _
        rw [e]
        exact hrng _ (memD (0, 0) (by omega))
      conv => whnf
      refine cmpI (fun q1 => ?_) (fun q1 => ?_) <;> conv => whnf
      · have hlt : k < (fkKn n t bad n).length := by omega
        have hmk := hm k hlt
        have hG := gcdF (fkG (fkK n t bad n) k) ((fkKn n t bad n).getD k 0) (by omega) (by omega)
        have e : (Int.gcd (fkG (fkK n t bad n) k) ((fkKn n t bad n).getD k 0) : Int) = fkG (fkK n t bad n) (k + 1) := by
          have e2 : (fkKn n t bad n).getD k 0 = ((fkK n t bad n).getD k (0, 0)).2 := snL_get _ _
          rw [fkG, e2]
        rw [e] at hG
        refine needI (by omega) ?_
        rw [Int.toNat_natCast]
        conv => whnf
        (refine oP (hG) ?_; conv => whnf)
        repeat' ((first|refine nI ?_|refine aI ?_|refine arU trivial (by omega) ?_|refine arB trivial (by omega) ?_|refine dI ?_|refine dR ?_|refine dP ?_|refine boxP rfl ?_|refine pI _ rfl ?_|refine rowSetI _ rfl ?_|refine tI ?_|refine fI ?_|refine cmpI (fun _ => ?_) (fun _ => ?_)) <;> conv => whnf)
        exact ⟨k + 1, (Sub.id_ 400 rfl auto_ auto_), by dsimp only; omega, by dsimp only; omega⟩
      · obtain rfl : (fkKn n t bad n).length = k := by omega
        have hg0 : 0 < fkG (fkK n t bad n) (fkKn n t bad n).length := fkG_pos (by rw [hhd.2]; unfold fkA; split <;> exact hd.1) _ (by omega)
        have hquo : ∀ i, i < (fkKn n t bad n).length → 0 ≤ ((fkKn n t bad n).getD i 0).tdiv (fkG (fkK n t bad n) (fkKn n t bad n).length) ∧ ((fkKn n t bad n).getD i 0).tdiv (fkG (fkK n t bad n) (fkKn n t bad n).length) ≤ 1073741824 := fun i hi => by
          have h3 := hm i hi
          have h4 := Int.natAbs_tdiv_le_natAbs ((fkKn n t bad n).getD i 0) (fkG (fkK n t bad n) (fkKn n t bad n).length)
          have h5 := Int.tdiv_nonneg (a := (fkKn n t bad n).getD i 0) (b := fkG (fkK n t bad n) (fkKn n t bad n).length) (by omega) (by omega)
          omega
        refine WPc.loopF tt_ok mx_ok (fun j : Nat => j ≤ (fkKn n t bad n).length ∧ ∀ i, i < j → ((fkKn n t bad n).getD i 0).tdiv (fkG (fkK n t bad n) (fkKn n t bad n).length) ≤ 65536) (fun j => [(97, .int .i64 (j : Int))]) (fun j => fkX (fkKs n t bad n) (mixT (fkKn n t bad n).length (fkKn n t bad n) (fun i => ((fkKn n t bad n).getD i 0).tdiv (fkG (fkK n t bad n) (fkKn n t bad n).length)) j)) (fun j => (fkKn n t bad n).length - j) 0 ⟨Nat.zero_le _, fun j hj => absurd hj (Nat.not_lt_zero _)⟩ ?_; conv => whnf
        refine ⟨?_, ?_⟩
        · show Sub _ _ _ _ _
          rw [mixT_zero _ rfl]
          exact (Sub.id_ 400 rfl auto_ auto_)
        rintro j ⟨hj, ha⟩
        have lM := mixT_len (fkKn n t bad n).length (fkKn n t bad n) (fun i => ((fkKn n t bad n).getD i 0).tdiv (fkG (fkK n t bad n) (fkKn n t bad n).length)) j
        conv => whnf
        refine cmpI (fun q2 => ?_) (fun q2 => ?_) <;> conv => whnf
        · have hlt : j < (fkKn n t bad n).length := by omega
          have hqj := hquo j hlt
          have hset : (mixT (fkKn n t bad n).length (fkKn n t bad n) (fun i => ((fkKn n t bad n).getD i 0).tdiv (fkG (fkK n t bad n) (fkKn n t bad n).length)) j).set j (((fkKn n t bad n).getD j 0).tdiv (fkG (fkK n t bad n) (fkKn n t bad n).length)) = mixT (fkKn n t bad n).length (fkKn n t bad n) (fun i => ((fkKn n t bad n).getD i 0).tdiv (fkG (fkK n t bad n) (fkKn n t bad n).length)) (j + 1) := mixT_up hlt
          have hat : (mixT (fkKn n t bad n).length (fkKn n t bad n) (fun i => ((fkKn n t bad n).getD i 0).tdiv (fkG (fkK n t bad n) (fkKn n t bad n).length)) (j + 1)).getD j 0 = ((fkKn n t bad n).getD j 0).tdiv (fkG (fkK n t bad n) (fkKn n t bad n).length) := mixT_at hlt (by omega)
          have lM2 := mixT_len (fkKn n t bad n).length (fkKn n t bad n) (fun i => ((fkKn n t bad n).getD i 0).tdiv (fkG (fkK n t bad n) (fkKn n t bad n).length)) (j + 1)
          refine needI (by omega) ?_
          rw [Int.toNat_natCast]
          conv => whnf
          rw [mixT_get hlt (Nat.lt_irrefl _)]
          refine arI (by omega) (by omega) ?_
          conv => whnf
          refine needI (by omega) ?_
          conv => whnf
          refine rowSetI (((fkKn n t bad n).getD j 0).tdiv (fkG (fkK n t bad n) (fkKn n t bad n).length)) rfl ?_
          rw [Int.toNat_natCast, hset]
          conv => whnf
          refine needI (by omega) ?_
          rw [Int.toNat_natCast]
          conv => whnf
          rw [hat]
          refine cmpI (fun q3 => ?_) (fun q3 => ?_) <;> conv => whnf
          · refine ⟨.inr ⟨?_, .inr rfl⟩, rfl⟩
            unfold fkD
            exact if_pos (.inl ⟨j, by omega, by rw [fkE_get n t bad (by omega)]; rw [fkKn, snL_get, snL_len] at q3; exact q3⟩)
          · repeat' ((first|refine nI ?_|refine aI ?_|refine arU trivial (by omega) ?_|refine arB trivial (by omega) ?_|refine dI ?_|refine dR ?_|refine dP ?_|refine boxP rfl ?_|refine pI _ rfl ?_|refine rowSetI _ rfl ?_|refine tI ?_|refine fI ?_|refine cmpI (fun _ => ?_) (fun _ => ?_)) <;> conv => whnf)
            exact ⟨j + 1, (Sub.id_ 400 rfl auto_ auto_), ⟨by omega, fun i hi => by
              by_cases e : i = j
              · subst e; omega
              · exact ha i (by omega)⟩, by dsimp only; omega⟩
        · obtain rfl : (fkKn n t bad n).length = j := by omega
          have hno : ¬ ∃ j, j < (fkK n t bad n).length ∧ 65536 < (fkE n t bad).mult.getD j 0 := by
            rintro ⟨j, h3, h4⟩
            have h5 := ha j (by omega)
            rw [fkE_get n t bad h3] at h4
            rw [fkKn, snL_get, snL_len] at h5
            omega
          have hmul : mixT (fkKn n t bad n).length (fkKn n t bad n) (fun i => ((fkKn n t bad n).getD i 0).tdiv (fkG (fkK n t bad n) (fkKn n t bad n).length)) (fkKn n t bad n).length = (fkE n t bad).mult := by
            rw [mixT_all, map_range (fun x => x.tdiv (fkG (fkK n t bad n) (fkKn n t bad n).length)) rfl]
            unfold fkE
            dsimp only
            rw [hlB]
            unfold fkKn snL
            rw [List.map_map]
            rfl
          refine drawX [(2, 2), (4, 4), (117, 4)] (by decide +kernel) ?_
          conv => whnf
          refine cmpI (fun q3 => ?_) (fun q3 => ?_) <;> conv => whnf
          · refine ⟨.inl ⟨fkE n t bad, ?_, ?_⟩, rfl⟩
            · unfold fkD
              exact if_neg (fun h => h.elim hno (fun h => by omega))
            · rw [hmul]
              rfl
          · refine ⟨.inr ⟨?_, .inl ⟨⟨_, _, _⟩, rfl⟩⟩, rfl⟩
            unfold fkD
            exact if_pos (.inr (by omega))
  · refine Spec.call [(7001, .old 4), (7002, .nil 1), (7003, .nil 1)] (fkL [] []) 400 rfl (auto_) (auto_) (useF n t bad [] (t.bas.getD bad 0) t.den (by simp) hn (by omega)) ?_
    rintro u M' ⟨rfl, rfl⟩
    have e : fkU n [] (t.bas.getD bad 0) t.den = fkK n t bad 0 := by rw [fkU, if_pos ⟨by omega, hd.1⟩, fkK, fkA, if_neg h1]; rfl
    rw [e]
    refine ⟨[(4, .old 7001), (6004, .old 7004), (6005, .old 7005)], fkB (fkKs n t bad 0) (fkKn n t bad 0), .tup [], rfl, (auto_), trivial, ?_⟩
    conv => whnf
    refine WPc.loopF tt_ok mx_ok (fun k : Nat => k ≤ n) (fun k => [(59, .int .i64 (k : Int)), (31, .top)]) (fun k => fkX (fkKs n t bad k) (fkKn n t bad k)) (fun k => n - k) 0 (Nat.zero_le _) ?_; conv => whnf
    refine ⟨Sub.by_ [(2, .old 2), (4, .old 4), (6004, .old 6004), (6005, .old 6005)] _ 400 rfl (auto_) (auto_), ?_⟩
    rintro k hk
    have hkl := fkK_len n t bad k
    conv => whnf
    refine cmpI (fun g1 => ?_) (fun g1 => ?_) <;> conv => whnf
    · have hlt : k < n := by omega
      have ek : ((k : Int) + 1).toNat = k + 1 := by omega
      have hck : -1073741824 ≤ (t.cel.getD bad []).getD (k + 1) 0 ∧ (t.cel.getD bad []).getD (k + 1) 0 ≤ 1073741824 := hcb (k + 1) (by omega)
      have hfk := hfs k hlt
      refine needI (by omega) ?_
      rw [Int.toNat_natCast]
      conv => whnf
      refine drawN .any [81] (by decide +kernel) ?_
      conv => whnf
      refine needI (by omega) ?_
      rw [Int.toNat_natCast]
      conv => whnf
      refine arI trivial (by omega) ?_
      conv => whnf
      refine needI (by omega) ?_
      rw [ek]
      conv => whnf
      refine arI trivial (by omega) ?_
      conv => whnf
      refine Spec.call [(7001, .old 4), (7002, .old 6004), (7003, .old 6005)] (fkL (fkKs n t bad k) (fkKn n t bad k)) 400 rfl (auto_) (auto_) (useF n t bad (fkK n t bad k) (t.fre.getD k 0) (0 - (t.cel.getD bad []).getD (k + 1) 0) (by omega) hn (by omega)) ?_
      rintro u M' ⟨rfl, rfl⟩
      rw [fkK_up]
      refine ⟨[(4, .old 7001), (6004, .old 7002), (6005, .old 7003), (6104, .old 7004), (6105, .old 7005)], fkC (fkKs n t bad (k + 1)) (fkKn n t bad (k + 1)), .tup [], rfl, (auto_), trivial, ?_⟩
      conv => whnf
      repeat' ((first|refine nI ?_|refine aI ?_|refine tI ?_|refine fI ?_|fail);conv => whnf)
      exact ⟨k + 1, Sub.by_ [(2, .old 2), (4, .old 4), (6004, .old 6104), (6005, .old 6105)] _ 400 rfl (auto_) (auto_), by omega, by dsimp only; omega⟩
    · obtain rfl : n = k := by omega
      have hlA : (fkKs n t bad n).length = (fkK n t bad n).length := fsL_len _
      have hlB : (fkKn n t bad n).length = (fkK n t bad n).length := snL_len _
      have hrng := fkK_rng n t bad hd hcb n (Nat.le_refl _)
      have hhd := fkK_head n t bad n
      refine WPc.loopF tt_ok mx_ok (fun k : Nat => k ≤ (fkKn n t bad n).length) (fun k => [(86, .int .i64 (k : Int)), (9, .int .i64 (fkG (fkK n t bad n) k))]) (fun _ => fkX (fkKs n t bad n) (fkKn n t bad n)) (fun k => (fkKn n t bad n).length - k) 0 (Nat.zero_le _) ?_; conv => whnf
      refine ⟨(Sub.id_ 400 rfl auto_ auto_), ?_⟩
      rintro k hk
      have hg := fkG_b hrng k (by omega)
      have hm : ∀ i, i < (fkKn n t bad n).length → 0 < (fkKn n t bad n).getD i 0 ∧ (fkKn n t bad n).getD i 0 ≤ 1073741824 := fun i hi => by
        have e : (fkKn n t bad n).getD i 0 = ((fkK n t bad n).getD i (0, 0)).2 := snL_get _ _
        rw [e]
        exact hrng _ (memD (0, 0) (by omega))
      conv => whnf
      refine cmpI (fun q1 => ?_) (fun q1 => ?_) <;> conv => whnf
      · have hlt : k < (fkKn n t bad n).length := by omega
        have hmk := hm k hlt
        have hG := gcdF (fkG (fkK n t bad n) k) ((fkKn n t bad n).getD k 0) (by omega) (by omega)
        have e : (Int.gcd (fkG (fkK n t bad n) k) ((fkKn n t bad n).getD k 0) : Int) = fkG (fkK n t bad n) (k + 1) := by
          have e2 : (fkKn n t bad n).getD k 0 = ((fkK n t bad n).getD k (0, 0)).2 := snL_get _ _
          rw [fkG, e2]
        rw [e] at hG
        refine needI (by omega) ?_
        rw [Int.toNat_natCast]
        conv => whnf
        (refine oP (hG) ?_; conv => whnf)
        repeat' ((first|refine nI ?_|refine aI ?_|refine arU trivial (by omega) ?_|refine arB trivial (by omega) ?_|refine dI ?_|refine dR ?_|refine dP ?_|refine boxP rfl ?_|refine pI _ rfl ?_|refine rowSetI _ rfl ?_|refine tI ?_|refine fI ?_|refine cmpI (fun _ => ?_) (fun _ => ?_)) <;> conv => whnf)
        exact ⟨k + 1, (Sub.id_ 400 rfl auto_ auto_), by dsimp only; omega, by dsimp only; omega⟩
      · obtain rfl : (fkKn n t bad n).length = k := by omega
        have hg0 : 0 < fkG (fkK n t bad n) (fkKn n t bad n).length := fkG_pos (by rw [hhd.2]; unfold fkA; split <;> exact hd.1) _ (by omega)
        have hquo : ∀ i, i < (fkKn n t bad n).length → 0 ≤ ((fkKn n t bad n).getD i 0).tdiv (fkG (fkK n t bad n) (fkKn n t bad n).length) ∧ ((fkKn n t bad n).getD i 0).tdiv (fkG (fkK n t bad n) (fkKn n t bad n).length) ≤ 1073741824 := fun i hi => by
          have h3 := hm i hi
          have h4 := Int.natAbs_tdiv_le_natAbs ((fkKn n t bad n).getD i 0) (fkG (fkK n t bad n) (fkKn n t bad n).length)
          have h5 := Int.tdiv_nonneg (a := (fkKn n t bad n).getD i 0) (b := fkG (fkK n t bad n) (fkKn n t bad n).length) (by omega) (by omega)
          omega
        refine WPc.loopF tt_ok mx_ok (fun j : Nat => j ≤ (fkKn n t bad n).length ∧ ∀ i, i < j → ((fkKn n t bad n).getD i 0).tdiv (fkG (fkK n t bad n) (fkKn n t bad n).length) ≤ 65536) (fun j => [(97, .int .i64 (j : Int))]) (fun j => fkX (fkKs n t bad n) (mixT (fkKn n t bad n).length (fkKn n t bad n) (fun i => ((fkKn n t bad n).getD i 0).tdiv (fkG (fkK n t bad n) (fkKn n t bad n).length)) j)) (fun j => (fkKn n t bad n).length - j) 0 ⟨Nat.zero_le _, fun j hj => absurd hj (Nat.not_lt_zero _)⟩ ?_; conv => whnf
        refine ⟨?_, ?_⟩
        · show Sub _ _ _ _ _
          rw [mixT_zero _ rfl]
          exact (Sub.id_ 400 rfl auto_ auto_)
        rintro j ⟨hj, ha⟩
        have lM := mixT_len (fkKn n t bad n).length (fkKn n t bad n) (fun i => ((fkKn n t bad n).getD i 0).tdiv (fkG (fkK n t bad n) (fkKn n t bad n).length)) j
        conv => whnf
        refine cmpI (fun q2 => ?_) (fun q2 => ?_) <;> conv => whnf
        · have hlt : j < (fkKn n t bad n).length := by omega
          have hqj := hquo j hlt
          have hset : (mixT (fkKn n t bad n).length (fkKn n t bad n) (fun i => ((fkKn n t bad n).getD i 0).tdiv (fkG (fkK n t bad n) (fkKn n t bad n).length)) j).set j (((fkKn n t bad n).getD j 0).tdiv (fkG (fkK n t bad n) (fkKn n t bad n).length)) = mixT (fkKn n t bad n).length (fkKn n t bad n) (fun i => ((fkKn n t bad n).getD i 0).tdiv (fkG (fkK n t bad n) (fkKn n t bad n).length)) (j + 1) := mixT_up hlt
          have hat : (mixT (fkKn n t bad n).length (fkKn n t bad n) (fun i => ((fkKn n t bad n).getD i 0).tdiv (fkG (fkK n t bad n) (fkKn n t bad n).length)) (j + 1)).getD j 0 = ((fkKn n t bad n).getD j 0).tdiv (fkG (fkK n t bad n) (fkKn n t bad n).length) := mixT_at hlt (by omega)
          have lM2 := mixT_len (fkKn n t bad n).length (fkKn n t bad n) (fun i => ((fkKn n t bad n).getD i 0).tdiv (fkG (fkK n t bad n) (fkKn n t bad n).length)) (j + 1)
          refine needI (by omega) ?_
          rw [Int.toNat_natCast]
          conv => whnf
          rw [mixT_get hlt (Nat.lt_irrefl _)]
          refine arI (by omega) (by omega) ?_
          conv => whnf
          refine needI (by omega) ?_
          conv => whnf
          refine rowSetI (((fkKn n t bad n).getD j 0).tdiv (fkG (fkK n t bad n) (fkKn n t bad n).length)) rfl ?_
          rw [Int.toNat_natCast, hset]
          conv => whnf
          refine needI (by omega) ?_
          rw [Int.toNat_natCast]
          conv => whnf
          rw [hat]
          refine cmpI (fun q3 => ?_) (fun q3 => ?_) <;> conv => whnf
          · refine ⟨.inr ⟨?_, .inr rfl⟩, rfl⟩
            unfold fkD
            exact if_pos (.inl ⟨j, by omega, by rw [fkE_get n t bad (by omega)]; rw [fkKn, snL_get, snL_len] at q3; exact q3⟩)
          · repeat' ((first|refine nI ?_|refine aI ?_|refine arU trivial (by omega) ?_|refine arB trivial (by omega) ?_|refine dI ?_|refine dR ?_|refine dP ?_|refine boxP rfl ?_|refine pI _ rfl ?_|refine rowSetI _ rfl ?_|refine tI ?_|refine fI ?_|refine cmpI (fun _ => ?_) (fun _ => ?_)) <;> conv => whnf)
            exact ⟨j + 1, (Sub.id_ 400 rfl auto_ auto_), ⟨by omega, fun i hi => by
              by_cases e : i = j
              · subst e; omega
              · exact ha i (by omega)⟩, by dsimp only; omega⟩
        · obtain rfl : (fkKn n t bad n).length = j := by omega
          have hno : ¬ ∃ j, j < (fkK n t bad n).length ∧ 65536 < (fkE n t bad).mult.getD j 0 := by
            rintro ⟨j, h3, h4⟩
            have h5 := ha j (by omega)
            rw [fkE_get n t bad h3] at h4
            rw [fkKn, snL_get, snL_len] at h5
            omega
          have hmul : mixT (fkKn n t bad n).length (fkKn n t bad n) (fun i => ((fkKn n t bad n).getD i 0).tdiv (fkG (fkK n t bad n) (fkKn n t bad n).length)) (fkKn n t bad n).length = (fkE n t bad).mult := by
            rw [mixT_all, map_range (fun x => x.tdiv (fkG (fkK n t bad n) (fkKn n t bad n).length)) rfl]
            unfold fkE
            dsimp only
            rw [hlB]
            unfold fkKn snL
            rw [List.map_map]
            rfl
          refine drawX [(2, 2), (4, 4), (117, 4)] (by decide +kernel) ?_
          conv => whnf
          refine cmpI (fun q3 => ?_) (fun q3 => ?_) <;> conv => whnf
          · refine ⟨.inl ⟨fkE n t bad, ?_, ?_⟩, rfl⟩
            · unfold fkD
              exact if_neg (fun h => h.elim hno (fun h => by omega))
            · rw [hmul]
              rfl
          · refine ⟨.inr ⟨?_, .inl ⟨⟨_, _, _⟩, rfl⟩⟩, rfl⟩
            unfold fkD
            exact if_pos (.inr (by omega))
end Go.Proofs.Ytgjmbmdaaahmkaa
