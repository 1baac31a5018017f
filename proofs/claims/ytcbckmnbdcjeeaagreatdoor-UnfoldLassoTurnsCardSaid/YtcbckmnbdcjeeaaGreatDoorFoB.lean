
/-
  Which configurations are bad.
-/
import Derived.Test.YtcbckmnbdcjeeaaGreatDoorFoA
set_option linter.unusedVariables false
set_option linter.unusedSimpArgs false
namespace Go.Proofs.YtcbckmnbdcjeeaaGreatDoor
set_option maxRecDepth 100000
set_option maxHeartbeats 8000000

/-! ### counting -/
def cntL (n : Nat) (L : List Int) : List Int := (List.range n).map fun s : Nat => (L.count (s : Int) : Int)
theorem count_take {l : List Int} {k : Nat} (h : k < l.length) (x : Int) : (l.take (k + 1)).count x = (l.take k).count x + if l.getD k 0 = x then 1 else 0 := by
  rw [List.take_succ_eq_append_getElem h, List.count_append]
  have e : l.getD k 0 = l[k] := by rw [List.getD_eq_getElem?_getD, List.getElem?_eq_getElem h]; rfl
  rw [e, List.count_singleton]
  simp only [beq_iff_eq]
theorem cntL_len (n : Nat) (L : List Int) : (cntL n L).length = n := by simp [cntL]
theorem cntL_at {n s : Nat} (L : List Int) (h : s < n) : (cntL n L).getD s 0 = (L.count (s : Int) : Int) := getD_map_range n s (fun s : Nat => (L.count (s : Int) : Int)) h
theorem countsF (p : Pro) (c : Cfg) (hp : ¬ bigP p) (hw : wideB c = false) (hpl : plB p c) : PSpec Tryz.prog 29 [.agg (encP p), .agg (encC c)] (fun u => u = .sl 0 encI (cntL p.states.length (c.states.take c.correct.toNat))) := by
  have hle := bigP_le hp
  have hc := wide_le hw
  obtain ⟨hin, hc0, hc1⟩ := hpl
  have hlen : (c.states.take c.correct.toNat).length = c.correct.toNat := by rw [List.length_take]; omega
  refine PSpec.intro tt_ok mx_ok Tryz.func29 rfl (by decide) ?_; (conv => whnf)
  refine boxP rfl ?_
  conv => whnf
  refine boxP rfl ?_
  conv => whnf
  refine mkI 0 encI 0 rfl (by dsimp only; omega) ?_
  rw [Int.toNat_natCast]
  conv => whnf
  refine needI (by omega) ?_
  conv => whnf
  refine WPc.loopF tt_ok mx_ok (fun x : Nat × List Int => x.1 ≤ c.correct.toNat ∧ x.2.length = p.states.length ∧ ∀ s : Nat, s < p.states.length → x.2.getD s 0 = ((c.states.take x.1).count (s : Int) : Int)) (fun x => [(18, .int .i64 (x.1 : Int))]) (fun x => [(11, rowN x.2)]) (fun x => c.correct.toNat - x.1) (0, List.replicate p.states.length 0) ⟨by dsimp only; omega, by simp, fun s hs => by dsimp only; rw [getD_rep _ _ _ hs]; simp⟩ ?_; conv => whnf
  refine ⟨(Sub.id_ 400 rfl auto_ auto_), ?_⟩
  rintro x ⟨h1, h2, h3⟩
  conv => whnf
  refine cmpI (fun h4 => ?_) (fun h4 => ?_) <;> conv => whnf
  · have h5 := hin x.1 (by omega)
    refine needI (by omega) ?_
    rw [Int.toNat_natCast, getD_take (by omega)]
    conv => whnf
    have h6 : (c.states.getD x.1 0).toNat < p.states.length := by omega
    have h7 := h3 _ h6
    have h8 : (c.states.take x.1).count ((c.states.getD x.1 0).toNat : Int) ≤ (c.states.take x.1).length := List.count_le_length
    have h9 : (c.states.take x.1).length ≤ 100 := by rw [List.length_take]; omega
    repeat' (first
        | (refine needI (by first | omega | (dsimp only; omega)) ?_; conv => whnf)
        | (refine arI trivial (by omega) ?_; conv => whnf)
        | (refine arU trivial (by omega) ?_; conv => whnf)
        | (refine arB trivial (by omega) ?_; conv => whnf)
        | (refine drawI (by decide +kernel) ?_; conv => whnf)
        | (refine drawR (by decide +kernel) ?_; conv => whnf)
        | (refine drawP (by decide +kernel) ?_; conv => whnf)
        | (refine boxP rfl ?_; conv => whnf)
        | (refine appI _ rfl (by first | omega | (dsimp only; omega) | (simp only [List.length_cons, List.length_nil, List.length_append]; omega)) ?_; conv => whnf)
        | (refine rowSetI _ rfl ?_; conv => whnf)
        | (refine cmpT (by omega) ?_; conv => whnf)
        | (refine cmpF (by omega) ?_; conv => whnf)
        | (refine cmpI (fun _ => ?_) (fun _ => ?_) <;> conv => whnf))
    refine ⟨(x.1 + 1, x.2.set (c.states.getD x.1 0).toNat (x.2.getD (c.states.getD x.1 0).toNat 0 + 1)), (Sub.id_ 400 rfl auto_ auto_), ⟨by dsimp only; omega, by simpa using h2, fun s hs => ?_⟩, by dsimp only; omega⟩
    dsimp only
    rw [getD_set, count_take (by omega), h3 s hs, h7]
    by_cases e : (c.states.getD x.1 0).toNat = s
    · rw [if_pos ⟨e, by omega⟩, if_pos (by omega), e]; omega
    · rw [if_neg (fun h => e h.1), if_neg (by omega)]; omega
  · have h5 : x.1 = c.correct.toNat := by omega
    have h6 : x.2 = cntL p.states.length (c.states.take c.correct.toNat) := by
      rw [h5] at h3
      exact list_of h2 h3
    refine ⟨?_, rfl⟩
    rw [← h6]
    rfl
end Go.Proofs.YtcbckmnbdcjeeaaGreatDoor
