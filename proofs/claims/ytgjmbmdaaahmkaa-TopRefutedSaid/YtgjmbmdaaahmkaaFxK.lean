
/-
  Contracts: the column that enters, the first fraction, and the point of a tableau, by the program.
-/
import Derived.Test.YtgjmbmdaaahmkaaFxJ
set_option linter.unusedVariables false
set_option linter.unusedSimpArgs false
namespace Go.Proofs.Ytgjmbmdaaahmkaa
set_option maxRecDepth 100000
set_option maxHeartbeats 32000000

theorem enteringF (n m : Nat) (t : Tab) (bad r : Int) (ht : TabS n m t) (hm : m ≤ 100000) (hn : n ≤ 100000) (hr : 0 ≤ r ∧ r < m) : PSpec Try.prog 41 [.pd (encTb n t bad), .int .i64 r] (fun u => u = .int .i64 (enK t r.toNat n)) := by
  have hb := ht.fl
  have hc := ht.cm
  have hcn := ht.cn r.toNat (by omega)
  refine PSpec.intro tt_ok mx_ok Try.func41 rfl (by decide) ?_; (conv => whnf)
  refine WPc.loopF tt_ok mx_ok (fun k : Nat => k ≤ n) (fun k => [(12, .int .i64 (k : Int)), (5, .int .i64 (enK t r.toNat k))]) (fun _ => []) (fun k => n - k) 0 (Nat.zero_le _) ?_; conv => whnf
  refine ⟨(Sub.id_ 400 rfl auto_ auto_), ?_⟩
  rintro k hk
  have hl := enK_rng t r.toNat k
  have hup : enK t r.toNat (k + 1) = if 0 < cl t r.toNat (k + 1) ∧ (enK t r.toNat k < 0 ∨ t.fre.getD k 0 < t.fre.getD (enK t r.toNat k).toNat 0) then (k : Int) else enK t r.toNat k := rfl
  conv => whnf
  refine cmpI (fun h1 => ?_) (fun h1 => ?_) <;> conv => whnf
  · have hlt : k < n := by omega
    have ek : ((k : Int) + 1).toNat = k + 1 := by omega
    first | refine drawP (by decide +kernel) ?_ | refine drawI (by decide +kernel) ?_
    conv => whnf
    refine needI (by omega) ?_
    conv => whnf
    refine arI trivial (by omega) ?_
    conv => whnf
    refine needI (by omega) ?_
    rw [ek]
    conv => whnf
    refine cmpI (fun h2 => ?_) (fun h2 => ?_) <;> conv => whnf
    · have e2 : 0 < cl t r.toNat (k + 1) := h2
      refine cmpI (fun h3 => ?_) (fun h3 => ?_) <;> conv => whnf
      · rw [if_pos ⟨e2, .inl h3⟩] at hup
        repeat' ((first|refine nI ?_|refine aI ?_|refine arU trivial (by omega) ?_|refine arB trivial (by omega) ?_|refine dI ?_|refine dR ?_|refine dP ?_|refine boxP rfl ?_|refine pI _ rfl ?_|refine rowSetI _ rfl ?_|refine tI ?_|refine fI ?_|refine cmpI (fun _ => ?_) (fun _ => ?_)) <;> conv => whnf)
        exact ⟨k + 1, by dsimp only; rw [hup]; exact (Sub.id_ 400 rfl auto_ auto_), by omega, by dsimp only; omega⟩
      · refine needI (by omega) ?_
        rw [Int.toNat_natCast]
        conv => whnf
        refine needI (by omega) ?_
        conv => whnf
        refine cmpI (fun h4 => ?_) (fun h4 => ?_) <;> conv => whnf
        · rw [if_pos ⟨e2, .inr h4⟩] at hup
          repeat' ((first|refine nI ?_|refine aI ?_|refine arU trivial (by omega) ?_|refine arB trivial (by omega) ?_|refine dI ?_|refine dR ?_|refine dP ?_|refine boxP rfl ?_|refine pI _ rfl ?_|refine rowSetI _ rfl ?_|refine tI ?_|refine fI ?_|refine cmpI (fun _ => ?_) (fun _ => ?_)) <;> conv => whnf)
          exact ⟨k + 1, by dsimp only; rw [hup]; exact (Sub.id_ 400 rfl auto_ auto_), by omega, by dsimp only; omega⟩
        · rw [if_neg (fun h => h.2.elim h3 h4)] at hup
          repeat' ((first|refine nI ?_|refine aI ?_|refine arU trivial (by omega) ?_|refine arB trivial (by omega) ?_|refine dI ?_|refine dR ?_|refine dP ?_|refine boxP rfl ?_|refine pI _ rfl ?_|refine rowSetI _ rfl ?_|refine tI ?_|refine fI ?_|refine cmpI (fun _ => ?_) (fun _ => ?_)) <;> conv => whnf)
          exact ⟨k + 1, by dsimp only; rw [hup]; exact (Sub.id_ 400 rfl auto_ auto_), by omega, by dsimp only; omega⟩
    · have e2 : ¬ 0 < cl t r.toNat (k + 1) := h2
      rw [if_neg (fun h => e2 h.1)] at hup
      repeat' ((first|refine nI ?_|refine aI ?_|refine arU trivial (by omega) ?_|refine arB trivial (by omega) ?_|refine dI ?_|refine dR ?_|refine dP ?_|refine boxP rfl ?_|refine pI _ rfl ?_|refine rowSetI _ rfl ?_|refine tI ?_|refine fI ?_|refine cmpI (fun _ => ?_) (fun _ => ?_)) <;> conv => whnf)
      exact ⟨k + 1, by dsimp only; rw [hup]; exact (Sub.id_ 400 rfl auto_ auto_), by omega, by dsimp only; omega⟩
  · obtain rfl : k = n := by omega
    exact ⟨rfl, rfl⟩
/-- what a tableau's numbers bear -/
structure TabB (m : Nat) (t : Tab) : Prop where
  dp : 0 < t.den ∧ t.den ≤ 1073741824
  cb : ∀ i, i < m → -1073741824 ≤ cl t i 0 ∧ cl t i 0 ≤ 1073741824
theorem fractionF (n m : Nat) (t : Tab) (bad : Int) (ht : TabS n m t) (hB : TabB m t) (hm : m ≤ 100000) (hn : n ≤ 100000) : PSpec Try.prog 30 [.pd (encTb n t bad)] (fun u => u = .tup [.int .i64 (frK n t m).1, .int .i64 (frK n t m).2]) := by
  have hb := ht.bl
  have hc := ht.cm
  have hd := hB.dp
  refine PSpec.intro tt_ok mx_ok Try.func30 rfl (by decide) ?_; (conv => whnf)
  refine WPc.loopF tt_ok mx_ok (fun k : Nat => k ≤ m) (fun k => [(13, .int .i64 (k : Int)), (4, .int .i64 (frK n t k).1), (5, .int .i64 (frK n t k).2)]) (fun _ => []) (fun k => m - k) 0 (Nat.zero_le _) ?_; conv => whnf
  refine ⟨(Sub.id_ 400 rfl auto_ auto_), ?_⟩
  rintro k hk
  have hup : frK n t (k + 1) = if t.bas.getD k 0 < n ∧ (cl t k 0).tmod t.den ≠ 0 ∧ ((frK n t k).1 < 0 ∨ t.bas.getD k 0 < (frK n t k).1) then (t.bas.getD k 0, (cl t k 0).tdiv t.den) else frK n t k := rfl
  conv => whnf
  refine cmpI (fun h1 => ?_) (fun h1 => ?_) <;> conv => whnf
  · have hlt : k < m := by omega
    have hcn := ht.cn k hlt
    have hcb := hB.cb k hlt
    have hcb' : -1073741824 ≤ (t.cel.getD k []).getD (Int.toNat 0) 0 ∧ (t.cel.getD k []).getD (Int.toNat 0) 0 ≤ 1073741824 := hcb
    refine needI (by omega) ?_
    rw [Int.toNat_natCast]
    conv => whnf
    refine drawI (by decide +kernel) ?_
    conv => whnf
    refine cmpI (fun h2 => ?_) (fun h2 => ?_) <;> conv => whnf
    · refine needI (by omega) ?_
      rw [Int.toNat_natCast]
      conv => whnf
      refine needI (by omega) ?_
      conv => whnf
      refine needI (by omega) ?_
      conv => whnf
      refine cmpI (fun h3 => ?_) (fun h3 => ?_) <;> conv => whnf
      · have e3 : (cl t k 0).tmod t.den ≠ 0 := h3
        have hq : -1073741824 ≤ ((t.cel.getD k []).getD (Int.toNat 0) 0).tdiv t.den ∧ ((t.cel.getD k []).getD (Int.toNat 0) 0).tdiv t.den ≤ 1073741824 := by
          have := Int.natAbs_tdiv_le_natAbs ((t.cel.getD k []).getD (Int.toNat 0) 0) t.den
          omega
        have put : ∀ (h5 : (frK n t k).1 < 0 ∨ t.bas.getD k 0 < (frK n t k).1), frK n t (k + 1) = (t.bas.getD k 0, (cl t k 0).tdiv t.den) := fun h5 => by rw [hup, if_pos ⟨h2, e3, h5⟩]
        refine cmpI (fun h4 => ?_) (fun h4 => ?_) <;> conv => whnf
        · have e1 := put (.inl h4)
          refine drawI (by decide +kernel) ?_
          conv => whnf
          refine needI (by omega) ?_
          rw [Int.toNat_natCast]
          conv => whnf
          refine needI (by omega) ?_
          conv => whnf
          refine arI (by omega) (by omega) ?_
          conv => whnf
          repeat' ((first|refine nI ?_|refine aI ?_|refine arU trivial (by omega) ?_|refine arB trivial (by omega) ?_|refine dI ?_|refine dR ?_|refine dP ?_|refine boxP rfl ?_|refine pI _ rfl ?_|refine rowSetI _ rfl ?_|refine tI ?_|refine fI ?_|refine cmpI (fun _ => ?_) (fun _ => ?_)) <;> conv => whnf)
          exact ⟨k + 1, by dsimp only; rw [e1]; exact (Sub.id_ 400 rfl auto_ auto_), by omega, by dsimp only; omega⟩
        · refine cmpI (fun h5 => ?_) (fun h5 => ?_) <;> conv => whnf
          · have e1 := put (.inr h5)
            refine drawI (by decide +kernel) ?_
            conv => whnf
            refine needI (by omega) ?_
            rw [Int.toNat_natCast]
            conv => whnf
            refine needI (by omega) ?_
            conv => whnf
            refine arI (by omega) (by omega) ?_
            conv => whnf
            repeat' ((first|refine nI ?_|refine aI ?_|refine arU trivial (by omega) ?_|refine arB trivial (by omega) ?_|refine dI ?_|refine dR ?_|refine dP ?_|refine boxP rfl ?_|refine pI _ rfl ?_|refine rowSetI _ rfl ?_|refine tI ?_|refine fI ?_|refine cmpI (fun _ => ?_) (fun _ => ?_)) <;> conv => whnf)
            exact ⟨k + 1, by dsimp only; rw [e1]; exact (Sub.id_ 400 rfl auto_ auto_), by omega, by dsimp only; omega⟩
          · rw [if_neg (fun h => h.2.2.elim h4 h5)] at hup
            repeat' ((first|refine nI ?_|refine aI ?_|refine arU trivial (by omega) ?_|refine arB trivial (by omega) ?_|refine dI ?_|refine dR ?_|refine dP ?_|refine boxP rfl ?_|refine pI _ rfl ?_|refine rowSetI _ rfl ?_|refine tI ?_|refine fI ?_|refine cmpI (fun _ => ?_) (fun _ => ?_)) <;> conv => whnf)
            exact ⟨k + 1, by dsimp only; rw [hup]; exact (Sub.id_ 400 rfl auto_ auto_), by omega, by dsimp only; omega⟩
      · rw [if_neg (fun h => h3 h.2.1)] at hup
        repeat' ((first|refine nI ?_|refine aI ?_|refine arU trivial (by omega) ?_|refine arB trivial (by omega) ?_|refine dI ?_|refine dR ?_|refine dP ?_|refine boxP rfl ?_|refine pI _ rfl ?_|refine rowSetI _ rfl ?_|refine tI ?_|refine fI ?_|refine cmpI (fun _ => ?_) (fun _ => ?_)) <;> conv => whnf)
        exact ⟨k + 1, by dsimp only; rw [hup]; exact (Sub.id_ 400 rfl auto_ auto_), by omega, by dsimp only; omega⟩
    · rw [if_neg (fun h => h2 h.1)] at hup
      repeat' ((first|refine nI ?_|refine aI ?_|refine arU trivial (by omega) ?_|refine arB trivial (by omega) ?_|refine dI ?_|refine dR ?_|refine dP ?_|refine boxP rfl ?_|refine pI _ rfl ?_|refine rowSetI _ rfl ?_|refine tI ?_|refine fI ?_|refine cmpI (fun _ => ?_) (fun _ => ?_)) <;> conv => whnf)
      exact ⟨k + 1, by dsimp only; rw [hup]; exact (Sub.id_ 400 rfl auto_ auto_), by omega, by dsimp only; omega⟩
  · obtain rfl : k = m := by omega
    exact ⟨rfl, rfl⟩
theorem pointF (n m : Nat) (t : Tab) (bad : Int) (ht : TabS n m t) (hB : TabB m t) (hm : m ≤ 100000) (hn : n ≤ 1000) (hbs : ∀ i, i < m → 0 ≤ t.bas.getD i 0) : PSpec Try.prog 32 [.pd (encTb n t bad)] (fun u => u = .sl 0 encI (ptK n t m)) := by
  have hb := ht.bl
  have hc := ht.cm
  have hd := hB.dp
  refine PSpec.intro tt_ok mx_ok Try.func32 rfl (by decide) ?_; (conv => whnf)
  refine mkI 0 encI 0 rfl (by dsimp only; omega) ?_
  rw [Int.toNat_natCast]
  conv => whnf
  refine WPc.loopF tt_ok mx_ok (fun k : Nat => k ≤ m) (fun k => [(16, .int .i64 (k : Int))]) (fun k => [(10, .row 3 0 encI (ptK n t k))]) (fun k => m - k) 0 (Nat.zero_le _) ?_; conv => whnf
  refine ⟨(Sub.id_ 400 rfl auto_ auto_), ?_⟩
  rintro k hk
  have hup : ptK n t (k + 1) = if t.bas.getD k 0 < n then (ptK n t k).set (t.bas.getD k 0).toNat ((cl t k 0).tdiv t.den) else ptK n t k := rfl
  have hpl := ptK_len n t k
  conv => whnf
  refine cmpI (fun h1 => ?_) (fun h1 => ?_) <;> conv => whnf
  · have hlt : k < m := by omega
    have hcn := ht.cn k hlt
    have hcb := hB.cb k hlt
    have hcb' : -1073741824 ≤ (t.cel.getD k []).getD (Int.toNat 0) 0 ∧ (t.cel.getD k []).getD (Int.toNat 0) 0 ≤ 1073741824 := hcb
    have hq : -1073741824 ≤ ((t.cel.getD k []).getD (Int.toNat 0) 0).tdiv t.den ∧ ((t.cel.getD k []).getD (Int.toNat 0) 0).tdiv t.den ≤ 1073741824 := by
      have := Int.natAbs_tdiv_le_natAbs ((t.cel.getD k []).getD (Int.toNat 0) 0) t.den
      omega
    have hb0 := hbs k hlt
    refine needI (by omega) ?_
    rw [Int.toNat_natCast]
    conv => whnf
    refine cmpI (fun h2 => ?_) (fun h2 => ?_) <;> conv => whnf
    · rw [if_pos h2] at hup
      refine drawI (by decide +kernel) ?_
      conv => whnf
      refine needI (by omega) ?_
      rw [Int.toNat_natCast]
      conv => whnf
      refine needI (by omega) ?_
      conv => whnf
      refine arI (by omega) (by omega) ?_
      conv => whnf
      refine needI (by omega) ?_
      conv => whnf
      refine rowSetI ((cl t k 0).tdiv t.den) rfl ?_
      conv => whnf
      repeat' ((first|refine nI ?_|refine aI ?_|refine arU trivial (by omega) ?_|refine arB trivial (by omega) ?_|refine dI ?_|refine dR ?_|refine dP ?_|refine boxP rfl ?_|refine pI _ rfl ?_|refine rowSetI _ rfl ?_|refine tI ?_|refine fI ?_|refine cmpI (fun _ => ?_) (fun _ => ?_)) <;> conv => whnf)
      exact ⟨k + 1, by dsimp only; rw [hup]; exact (Sub.id_ 400 rfl auto_ auto_), by omega, by dsimp only; omega⟩
    · rw [if_neg h2] at hup
      repeat' ((first|refine nI ?_|refine aI ?_|refine arU trivial (by omega) ?_|refine arB trivial (by omega) ?_|refine dI ?_|refine dR ?_|refine dP ?_|refine boxP rfl ?_|refine pI _ rfl ?_|refine rowSetI _ rfl ?_|refine tI ?_|refine fI ?_|refine cmpI (fun _ => ?_) (fun _ => ?_)) <;> conv => whnf)
      exact ⟨k + 1, by dsimp only; rw [hup]; exact (Sub.id_ 400 rfl auto_ auto_), by omega, by dsimp only; omega⟩
  · obtain rfl : k = m := by omega
    exact ⟨rfl, rfl⟩
end Go.Proofs.Ytgjmbmdaaahmkaa
