
/-
  The names of a family.
-/
import Derived.Test.YtcbckmnbdcjeeaaGreatDoorFnT
set_option linter.unusedVariables false
set_option linter.unusedSimpArgs false
namespace Go.Proofs.YtcbckmnbdcjeeaaGreatDoor
set_option maxRecDepth 100000
set_option maxHeartbeats 4000000

def rowS (l : List ByteArray) : Blk := .row 9 t0 encT l
def encTs (l : List ByteArray) : List AV := [.sl t0 encT l]
theorem growF (n : Nat) (h0 : 0 < n) (hn : n ≤ 1000) : Spec Tryz.prog 143 [.nilsl, .int .i64 (n : Int)] (Mem.ofL []) (fun u M => ∃ ℓ0, u = .row ℓ0 0 1 ∧ M ℓ0 = some (rowS [])) := by
  refine Spec.intro tt_ok mx_ok [] Tryz.func143 rfl (by decide) ?_
  conv => whnf
  repeat' (first
      | (refine needI (by first | omega | (dsimp only; omega)) ?_; conv => whnf)
      | (refine arI trivial (by omega) ?_; conv => whnf)
      | (refine cmpT (by omega) ?_; conv => whnf)
      | (refine cmpF (by omega) ?_; conv => whnf)
      | fail)
  refine mkI t0 encT t0 rfl (by dsimp only; omega) ?_
  conv => whnf
  repeat' (first
      | (refine needI (by first | omega | (dsimp only; omega)) ?_; conv => whnf)
      | (refine arI trivial (by omega) ?_; conv => whnf)
      | (refine cmpT (by omega) ?_; conv => whnf)
      | (refine cmpF (by omega) ?_; conv => whnf)
      | (refine sliceC ?_; conv => whnf)
      | fail)
  exact ⟨25, rfl, rfl⟩
theorem concatF (ls : List (List ByteArray)) (hl : ls.length ≤ 10) (h0 : 0 < ls.flatten.length) (hn : ls.flatten.length ≤ 1000) : PSpec Tryz.prog 99 [.sl [] encTs ls] (fun u => u = .sl t0 encT ls.flatten) := by
  have hpart : ∀ i, (ls.take i).flatten.length ≤ 1000 := fun i => by
    have : ls.flatten = (ls.take i).flatten ++ (ls.drop i).flatten := by rw [← List.flatten_append, List.take_append_drop]
    rw [this] at hn
    simp only [List.length_append] at hn
    omega
  have hsucc : ∀ i, i < ls.length → (ls.take (i + 1)).flatten = (ls.take i).flatten ++ ls.getD i [] := fun i hi => by
    rw [take_succ_getD [] hi, List.flatten_append]; simp
  refine PSpec.intro tt_ok mx_ok Tryz.func99 rfl (by decide) ?_; (conv => whnf)
  refine WPc.loopF tt_ok mx_ok (fun i : Nat => i ≤ ls.length) (fun i => [(11, .int .i64 (i : Int)), (3, .int .i64 ((ls.take i).flatten.length : Int))]) (fun _ => []) (fun i => ls.length - i) 0 (by omega) ?_; conv => whnf
  refine ⟨(Sub.id_ 400 rfl auto_ auto_), ?_⟩
  intro i hi
  conv => whnf
  refine cmpI (fun h1 => ?_) (fun h1 => ?_) <;> conv => whnf
  · refine needI (by omega) ?_
    rw [Int.toNat_natCast]
    have hs := hsucc i (by omega)
    have h2 := hpart (i + 1)
    rw [hs, List.length_append] at h2
    conv => whnf
    repeat' (first
        | (refine needI (by first | omega | (dsimp only; omega)) ?_; conv => whnf)
        | (refine arI trivial (by omega) ?_; conv => whnf)
        | (refine cmpT (by omega) ?_; conv => whnf)
        | (refine cmpF (by omega) ?_; conv => whnf)
        | fail)
    refine ⟨i + 1, ?_, by omega, by dsimp only; omega⟩
    dsimp only
    rw [hs, List.length_append]
    exact (Sub.id_ 400 rfl auto_ auto_)
  · obtain rfl : i = ls.length := by omega
    rw [List.take_length]
    refine Spec.fresh 24 (growF _ h0 hn) rfl (auto_) ?_
    conv => whnf
    refine WPc.loopF tt_ok mx_ok (fun i : Nat => i ≤ ls.length) (fun i => [(27, .int .i64 (i : Int)), (6, .row 1000 (ls.take i).flatten.length 1), (24, .top)]) (fun i => [(1000, rowS (ls.take i).flatten)]) (fun i => ls.length - i) 0 (by omega) ?_; conv => whnf
    refine ⟨Sub.by_ [(1000, .old 24)] _ 400 rfl (auto_) (auto_), ?_⟩
    intro i hi
    conv => whnf
    refine cmpI (fun h1 => ?_) (fun h1 => ?_) <;> conv => whnf
    · refine needI (by omega) ?_
      rw [Int.toNat_natCast]
      have hs := hsucc i (by omega)
      have h2 := hpart (i + 1)
      rw [hs, List.length_append] at h2
      conv => whnf
      refine appI _ rfl (by dsimp only; omega) ?_
      conv => whnf
      repeat' (first
          | (refine needI (by first | omega | (dsimp only; omega)) ?_; conv => whnf)
          | (refine arI trivial (by omega) ?_; conv => whnf)
          | (refine cmpT (by omega) ?_; conv => whnf)
          | (refine cmpF (by omega) ?_; conv => whnf)
          | fail)
      refine ⟨i + 1, ?_, by omega, by dsimp only; omega⟩
      dsimp only
      rw [hs, List.length_append]
      exact Sub.by_ [(1000, .old 33)] _ 400 rfl (auto_) (auto_)
    · obtain rfl : i = ls.length := by omega
      rw [List.take_length]
      exact ⟨rfl, rfl⟩
def nmsB (l : List ByteArray) : Prop := ∀ i, i < l.length → validN (l.getD i t0) ∧ l.getD i t0 ∉ l.take i
instance (l : List ByteArray) : Decidable (nmsB l) := inferInstanceAs (Decidable (∀ i, i < l.length → _))
def allN (p : Pro) : List ByteArray := p.states ++ p.messages ++ p.values
theorem allN_size {p : Pro} (hp : ¬ bigP p) : ∀ i, ((allN p).getD i t0).size ≤ 500 := by
  intro i
  have hb : ¬ bigNs p.states ∧ ¬ bigNs p.messages ∧ ¬ bigNs p.values := by
    unfold bigP at hp
    simp only [not_or] at hp
    exact hp.2.2.2.2.2.2.2.2.2
  by_cases hi : i < (allN p).length
  · have hm := mem_getD (l := allN p) t0 hi
    generalize (allN p).getD i t0 = s at hm
    have key : ∀ l : List ByteArray, ¬ bigNs l → s ∈ l → s.size ≤ 500 := by
      intro l hl hs
      obtain ⟨j, hj, e⟩ := List.getElem_of_mem hs
      refine Nat.le_of_not_lt fun h => hl ⟨j, hj, ?_⟩
      rw [List.getD_eq_getElem?_getD, List.getElem?_eq_getElem hj, Option.getD_some, e]
      exact h
    unfold allN at hm
    simp only [List.mem_append] at hm
    rcases hm with (h | h) | h
    · exact key _ hb.1 h
    · exact key _ hb.2.1 h
    · exact key _ hb.2.2 h
  · rw [List.getD_eq_getElem?_getD, List.getElem?_eq_none (by omega)]; decide
theorem namesF (p : Pro) (hp : ¬ bigP p) (h0 : 0 < p.states.length) : PSpec Tryz.prog 53 [.agg (encP p)] (fun u => u = .int .i64 (if nmsB (allN p) then 0 else 2)) := by
  have hle := bigP_le hp
  have hsz := allN_size hp
  have hlen : (allN p).length = p.states.length + p.messages.length + p.values.length := by simp [allN]; omega
  have hfl : [p.states, p.messages, p.values].flatten = allN p := by simp [allN]
  have hc := concatF [p.states, p.messages, p.values] (by simp) (by rw [hfl]; omega) (by rw [hfl]; omega)
  rw [hfl] at hc
  refine PSpec.intro tt_ok mx_ok Tryz.func53 rfl (by decide) ?_; (conv => whnf)
  refine boxP rfl ?_
  conv => whnf
  refine bldI [] encTs [p.states, p.messages, p.values] rfl ?_
  conv => whnf
  refine Spec.hand 12 rfl ?_
  (refine Spec.of_pure (n := 5) (hc) rfl ?_; rintro _ rfl; conv => whnf)
  refine WPc.loopF tt_ok mx_ok (fun i : Nat => i ≤ (allN p).length ∧ ∀ j, j < i → validN ((allN p).getD j t0) ∧ (allN p).getD j t0 ∉ (allN p).take j) (fun i => [(16, .int .i64 (i : Int)), (12, .top)]) (fun _ => []) (fun i => (allN p).length - i) 0 ⟨by omega, fun j hj => by omega⟩ ?_; conv => whnf
  refine ⟨(Sub.id_ 400 rfl auto_ auto_), ?_⟩
  rintro i ⟨hi, ha⟩
  conv => whnf
  refine cmpI (fun h1 => ?_) (fun h1 => ?_) <;> conv => whnf
  · refine needI (by omega) ?_
    rw [Int.toNat_natCast]
    conv => whnf
    refine Spec.dcall (n := 5) (validNameP _ (by have := hsz i; omega)) rfl (fun _ => ?_) (fun _ => ?_) <;> (conv => whnf)
    · rename_i hv
      refine needI (by omega) ?_
      rw [Int.toNat_natCast]
      conv => whnf
      refine Spec.dcall (n := 5) (sContainsS _ _ (by simp; omega)) rfl (fun _ => ?_) (fun _ => ?_) <;> (conv => whnf)
      · rename_i hm
        exact ⟨av_int (by rw [if_neg (fun h : nmsB (allN p) => (h i (by omega)).2 hm)]), rfl⟩
      · rename_i hm
        repeat' (first
            | (refine needI (by first | omega | (dsimp only; omega)) ?_; conv => whnf)
            | (refine arI trivial (by omega) ?_; conv => whnf)
            | (refine cmpT (by omega) ?_; conv => whnf)
            | (refine cmpF (by omega) ?_; conv => whnf)
            | fail)
        refine ⟨i + 1, (Sub.id_ 400 rfl auto_ auto_), ⟨by omega, fun j hj => ?_⟩, by dsimp only; omega⟩
        by_cases e : j = i
        · subst e; exact ⟨hv, hm⟩
        · exact ha j (by omega)
    · rename_i hv
      exact ⟨av_int (by rw [if_neg (fun h : nmsB (allN p) => hv (h i (by omega)).1)]), rfl⟩
  · exact ⟨av_int (by rw [if_pos (show nmsB (allN p) from fun j hj => ha j (by omega))]), rfl⟩
end Go.Proofs.YtcbckmnbdcjeeaaGreatDoor
