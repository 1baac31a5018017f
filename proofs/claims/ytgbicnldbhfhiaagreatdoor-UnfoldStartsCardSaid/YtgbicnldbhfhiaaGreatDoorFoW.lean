
/-
  All choices of one element of each list.
-/
import Derived.Test.YtgbicnldbhfhiaaGreatDoorFoV
set_option linter.unusedVariables false
set_option linter.unusedSimpArgs false
namespace Go.Proofs.YtgbicnldbhfhiaaGreatDoor
set_option maxRecDepth 100000
set_option maxHeartbeats 16000000

def avO : Option (List Int) → AV
  | none => .nilsl
  | some l => .sl 0 encI l
def encO (o : Option (List Int)) : List AV := [avO o]
def rowO (l : List (Option (List Int))) : Blk := .row 24 none encO l
def extL (out : List (List Int)) (c : List Int) : List (List Int) := out.flatMap fun h => c.map fun x => h ++ [x]
def prodK (ch : Nat → List Int) : Nat → List (List Int)
  | 0 => [[]]
  | k + 1 => extL (prodK ch k) (ch k)
theorem getL {l : List (List Int)} {k : Nat} (h : k < l.length) : l.getD k [] = l[k] := by
  rw [List.getD_eq_getElem?_getD, List.getElem?_eq_getElem h]; rfl
theorem getN {l : List Int} {k : Nat} (h : k < l.length) : l.getD k 0 = l[k] := by
  rw [List.getD_eq_getElem?_getD, List.getElem?_eq_getElem h]; rfl
theorem extL_take {out : List (List Int)} {c : List Int} {a : Nat} (h : a < out.length) : extL (out.take (a + 1)) c = extL (out.take a) c ++ c.map fun x => out.getD a [] ++ [x] := by
  unfold extL
  rw [List.take_succ_eq_append_getElem h, List.flatMap_append, getL h]
  simp
theorem mapN_take {c : List Int} {h : List Int} {b : Nat} (hb : b < c.length) : (c.take (b + 1)).map (fun x => h ++ [x]) = (c.take b).map (fun x => h ++ [x]) ++ [h ++ [c.getD b 0]] := by
  rw [List.take_succ_eq_append_getElem hb, List.map_append, getN hb]
  rfl
theorem extL_len : ∀ (out : List (List Int)) (c : List Int), (extL out c).length = out.length * c.length
  | [], c => by simp [extL]
  | h :: out, c => by
    have ih := extL_len out c
    unfold extL at ih ⊢
    rw [List.flatMap_cons, List.length_append, ih, List.length_map, List.length_cons, Nat.add_mul, Nat.one_mul, Nat.add_comm]
theorem ext_part {out : List (List Int)} {c : List Int} {a b m : Nat} (ha : a < out.length) (hb : b < c.length) (hm : (extL out c).length ≤ m) {h : List Int} : (extL (out.take a) c ++ (c.take b).map fun x => h ++ [x]).length < m := by
  rw [List.length_append, extL_len, List.length_map, List.length_take, List.length_take]
  rw [extL_len] at hm
  have h1 : (a + 1) * c.length ≤ out.length * c.length := Nat.mul_le_mul_right _ (by omega)
  rw [Nat.add_mul, Nat.one_mul] at h1
  rw [show min a out.length = a by omega, show min b c.length = b by omega]
  omega
theorem productF (cs : List (Option (List Int))) (ch : Nat → List Int) (hcs : ∀ k, k < cs.length → cs.getD k none = some (ch k)) (hb : ∀ k, k ≤ cs.length → (prodK ch k).length ≤ 4000) (hch : ∀ k, k < cs.length → (ch k).length ≤ 60) (hl : cs.length ≤ 8) (hd : ∀ k, k ≤ cs.length → ∀ w ∈ prodK ch k, w.length ≤ 8) : PSpec Tryz.prog 90 [.sl none encO cs] (fun u => u = .sl [] encL (prodK ch cs.length)) := by
  refine PSpec.intro tt_ok mx_ok Tryz.func90 rfl (by decide) ?_; (conv => whnf)
  refine bldI 0 encI [] rfl ?_
  conv => whnf
  refine bldI [] encL [[]] rfl ?_
  conv => whnf
  refine WPc.loopF tt_ok mx_ok (fun k : Nat => k ≤ cs.length) (fun k => [(15, .int .i64 (k : Int)), (11, .top), (12, .top), (3, .row 1000 (prodK ch k).length 1)]) (fun k => [(1000, rowL (prodK ch k))]) (fun k => cs.length - k) 0 (Nat.zero_le _) ?_; conv => whnf
  refine ⟨Sub.by_ [(1000, .old 12)] _ 400 rfl (auto_) (auto_), ?_⟩
  rintro k hk
  conv => whnf
  refine cmpI (fun g1 => ?_) (fun g1 => ?_) <;> conv => whnf
  · have hc := hch k (by omega)
    have hm := hb (k + 1) (by omega)
    have hw := hd k (by omega)
    have hm0 := hb k (by omega)
    have hpk : prodK ch (k + 1) = extL (prodK ch k) (ch k) := rfl
    rw [hpk] at hm
    refine needI (by omega) ?_
    rw [Int.toNat_natCast, hcs k (by omega)]
    generalize hO : prodK ch k = out at hm hw hm0 hpk
    generalize ch k = c at hc hm hpk
    conv => whnf
    refine WPc.loopF tt_ok mx_ok (fun a : Nat => a ≤ out.length) (fun a => [(21, .int .i64 (a : Int)), (6, .row 1001 (extL (out.take a) c).length 1)]) (fun a => [(1000, rowL out), (1001, rowL (extL (out.take a) c))]) (fun a => out.length - a) 0 (Nat.zero_le _) ?_; conv => whnf
    refine ⟨Sub.by_ [(1000, .old 1000), (1001, .nil 1)] _ 400 rfl (auto_) (auto_), ?_⟩
    rintro a ha
    conv => whnf
    refine cmpI (fun g2 => ?_) (fun g2 => ?_) <;> conv => whnf
    · have hwa : (out.getD a []).length ≤ 8 := by
        rw [getL (by omega)]; exact hw _ (List.getElem_mem _)
      have hup := extL_take (c := c) (show a < out.length by omega)
      refine needI (by omega) ?_
      rw [Int.toNat_natCast]
      conv => whnf
      generalize out.getD a [] = h at hwa hup ⊢
      have hz0 : (List.map (fun x => h ++ [x]) (List.take 0 c)).length = 0 := by simp
      refine WPc.loopF tt_ok mx_ok (fun b : Nat => b ≤ c.length) (fun b => [(27, .int .i64 (b : Int)), (6, .row 1001 (extL (out.take a) c ++ (c.take b).map fun x => h ++ [x]).length 1)]) (fun b => [(1000, rowL out), (1001, rowL (extL (out.take a) c ++ (c.take b).map fun x => h ++ [x]))]) (fun b => c.length - b) 0 (Nat.zero_le _) ?_; conv => whnf
      refine ⟨Sub.id_ 400 rfl ⟨rfl, by show Blk.row _ _ _ _ = Blk.row _ _ _ _; simp, trivial⟩ (auto_), ?_⟩
      rintro b hbb
      conv => whnf
      refine cmpI (fun g3 => ?_) (fun g3 => ?_) <;> conv => whnf
      · have hlt := ext_part (h := h) (show a < out.length by omega) (show b < c.length by omega) hm
        have hup2 := mapN_take (h := h) (show b < c.length by omega)
        have hz1 : (List.map (fun x => h ++ [x]) (List.take (b + 1) c)).length = (List.map (fun x => h ++ [x]) (List.take b c)).length + 1 := by rw [hup2]; simp
        refine needI (by omega) ?_
        rw [Int.toNat_natCast]
        conv => whnf
        refine needI ⟨rfl, rfl⟩ ?_
        conv => whnf
        refine needI (Nat.succ_pos _) ?_
        conv => whnf
        refine appI [c.getD b 0] rfl (by simp only [List.length_cons, List.length_nil]; omega) ?_
        conv => whnf
        refine bldI [] encL [h ++ [c.getD b 0]] rfl ?_
        conv => whnf
        refine appI [h ++ [c.getD b 0]] rfl (by simp only [List.length_cons, List.length_nil]; omega) ?_
        rw [List.append_assoc, ← hup2]
        conv => whnf
        repeat' (first
            | (refine needI (by first | omega | (dsimp only; omega)) ?_; conv => whnf)
            | (refine arI trivial (by omega) ?_; conv => whnf)
            | (refine cmpT (by omega) ?_; conv => whnf)
            | (refine cmpF (by omega) ?_; conv => whnf)
            | fail)
        exact ⟨b + 1, Sub.by_ [(1000, .old 1000), (1001, .old 42)] _ 400 rfl (auto_) (auto_), by omega, by dsimp only; omega⟩
      · obtain rfl : b = c.length := by omega
        rw [List.take_length, ← hup]
        repeat' (first
            | (refine needI (by first | omega | (dsimp only; omega)) ?_; conv => whnf)
            | (refine arI trivial (by omega) ?_; conv => whnf)
            | (refine cmpT (by omega) ?_; conv => whnf)
            | (refine cmpF (by omega) ?_; conv => whnf)
            | fail)
        exact ⟨a + 1, (Sub.id_ 400 rfl auto_ auto_), by omega, by dsimp only; omega⟩
    · obtain rfl : a = out.length := by omega
      rw [List.take_length, ← hpk]
      repeat' (first
          | (refine needI (by first | omega | (dsimp only; omega)) ?_; conv => whnf)
          | (refine arI trivial (by omega) ?_; conv => whnf)
          | (refine cmpT (by omega) ?_; conv => whnf)
          | (refine cmpF (by omega) ?_; conv => whnf)
          | fail)
      exact ⟨k + 1, Sub.by_ [(1000, .old 1001)] _ 400 rfl (auto_) (auto_), by omega, by dsimp only; omega⟩
  · obtain rfl : k = cs.length := by omega
    exact ⟨rfl, rfl⟩
end Go.Proofs.YtgbicnldbhfhiaaGreatDoor
