import Derived.Test.YtaeomngmcfdfpaaGreatDoorMG
set_option linter.unusedVariables false
set_option linter.unusedSimpArgs false
namespace Go.Proofs.YtaeomngmcfdfpaaGreatDoor
set_option maxRecDepth 100000
set_option maxHeartbeats 16000000
def szI (p : Pro) (n f : Nat) : Nat → List Siz
 |0 => []
 |k + 1 => szI p n f k ++ (if admB p ⟨n, k, f⟩ then [⟨n, k, f⟩] else [])
def szJ (p : Pro) (n : Nat) : Nat → List Siz
 |0 => []
 |k + 1 => szJ p n k ++ szI p n k (n + 1)
def szN (p : Pro) (n : Nat) : List Siz := szJ p n (n + 1)
def szL (p : Pro) : Nat → List Siz
 |0 => []
 |k + 1 => szL p k ++ szN p (k + 1)
theorem szI_len (p : Pro) (n f : Nat) : ∀ k, (szI p n f k).length ≤ k
 |0 => by simp [szI]
 |k + 1 => by
  have := szI_len p n f k
  simp only [szI, List.length_append]
  split <;> simp <;> omega
theorem szJ_len (p : Pro) (n : Nat) : ∀ k, (szJ p n k).length ≤ k * (n + 1)
 |0 => by simp [szJ]
 |k + 1 => by
  have := szJ_len p n k
  have := szI_len p n k (n + 1)
  simp only [szJ, List.length_append]
  rw [Nat.add_mul]
  omega
theorem szL_len (p : Pro) : ∀ k, k ≤ 8 → (szL p k).length ≤ k * 81
 |0, _ => by simp [szL]
 |k + 1, h => by
  have h1 := szL_len p k (by omega)
  have h2 := szJ_len p (k + 1) (k + 1 + 1)
  have h3 : (k + 1 + 1) * (k + 1 + 1) ≤ 9 * 9 := Nat.mul_le_mul (by omega) (by omega)
  simp only [szL, szN, List.length_append]
  omega
theorem szI_mem {p : Pro} {n f : Nat} {z : Siz} : ∀ {k : Nat}, z ∈ szI p n f k → admB p z ∧ z.n = n
 |0, h => by simp [szI] at h
 |k + 1, h => by
  simp only [szI, List.mem_append] at h
  rcases h with h | h
  ·exact szI_mem h
  ·split at h
   ·rename_i ha
    rw [List.mem_singleton] at h
    subst h
    exact ⟨ha, rfl⟩
   ·cases h
theorem szJ_mem {p : Pro} {n : Nat} {z : Siz} : ∀ {k : Nat}, z ∈ szJ p n k → admB p z ∧ z.n = n
 |0, h => by simp [szJ] at h
 |k + 1, h => by
  simp only [szJ, List.mem_append] at h
  rcases h with h | h
  ·exact szJ_mem h
  ·exact szI_mem h
theorem szL_mem {p : Pro} {z : Siz} : ∀ {k : Nat}, z ∈ szL p k → admB p z ∧ 1 ≤ z.n ∧ z.n ≤ k
 |0, h => by simp [szL] at h
 |k + 1, h => by
  simp only [szL, List.mem_append] at h
  rcases h with h | h
  ·have := szL_mem h
   exact ⟨this.1, this.2.1, by omega⟩
  ·have := szJ_mem h
   refine ⟨this.1, ?_⟩
   rw [this.2]
   omega
theorem szL_ok {p : Pro} {q : Prp} {z : Siz} {k : Nat} (hv : propE p q = 0) (hk : k ≤ 8) (h : z ∈ szL p k) : sizQ p q z = 0 := by
 obtain ⟨h1, h2, h3⟩ := szL_mem h
 unfold sizQ
 rw [if_neg (by omega)]
 unfold sizeE
 have h4 : validE p = 0 := by
  by_cases hh : validE p = 0
  ·exact hh
  ·exfalso
   unfold propE at hv
   rw [if_pos hh] at hv
   exact hh hv
 rw [if_neg (by omega), if_neg (by simpa using h1), if_neg (by omega)]
def rowZ (l : List Siz) : Blk := .row 35 siz0 encZ l
theorem szI_up {p : Pro} {n f t : Nat} {A : List Siz} : A ++ szI p n f (t + 1) = A ++ szI p n f t ++ (if admB p ⟨n, t, f⟩ then [⟨n, t, f⟩] else []) := by
 simp only [szI, List.append_assoc]
theorem szB (p : Pro) {n f t : Nat} (hn : n ≤ 8) (hf : f ≤ n) (ht : t ≤ n + 1) : (szJ p n f ++ szI p n f t).length ≤ 100 := by
 have h1 := szJ_len p n f
 have h2 := szI_len p n f t
 have h3 : f * (n + 1) ≤ 8 * 9 := Nat.mul_le_mul (by omega) (by omega)
 rw [List.length_append]
 omega
theorem SizesF (p : Pro) (n : Nat) (hp : ¬ bigP p) (hv : validE p = 0) (hn : 1 ≤ n ∧ n ≤ 8) : PSpec Tryz.prog 32 [.agg (encP p), .int .i64 (n : Int)] (fun u => u = .tup [.sl siz0 encZ (szN p n), .int .i64 0]) := by
 have hV := validateF p (okP_of hp)
 rw [hv] at hV
 refine PSpec.intro tt_ok mx_ok Tryz.func32 rfl (by decide) ?_; (conv => whnf)
 refine boxP rfl ?_
 conv => whnf
 (refine oP (hV) ?_; conv => whnf)
 refine fI ?_
 conv => whnf
 refine fI ?_
 conv => whnf
 refine fI ?_
 conv => whnf
 refine WPc.loopF tt_ok mx_ok (fun f : Nat => f ≤ n + 1) (fun f => [(8, .int .i64 (f : Int)), (7, .row 1000 (szJ p n f).length 3)]) (fun f => [(1000, rowZ (szJ p n f))]) (fun f => n + 1 - f) 0 (Nat.zero_le _) ?_; conv => whnf
 refine ⟨Sub.by_ [(1000, .nil 3)] _ 400 rfl (auto_) (auto_), ?_⟩
 rintro f hf
 conv => whnf
 refine cmpI ?_ ?_ <;> (intro g1; conv => whnf)
 ·refine WPc.loopF tt_ok mx_ok (fun t : Nat => t ≤ n + 1) (fun t => [(9, .int .i64 (t : Int)), (7, .row 1000 (szJ p n f ++ szI p n f t).length 3)]) (fun t => [(1000, rowZ (szJ p n f ++ szI p n f t))]) (fun t => n + 1 - t) 0 (Nat.zero_le _) ?_; conv => whnf
  have e0 : szJ p n f ++ szI p n f 0 = szJ p n f := by simp [szI]
  refine ⟨by rw [e0]; exact sI, ?_⟩
  rintro t ht
  have hB := szB p hn.2 (show f ≤ n by omega) ht
  conv => whnf
  refine cmpI ?_ ?_ <;> (intro g2; conv => whnf)
  ·have hup := szI_up (p := p) (n := n) (f := f) (t := t) (A := szJ p n f)
   refine dC (hasF p ⟨n, t, f⟩ hp (validE_res hv)) (fun _ => ?_) (fun _ => ?_) <;> (conv => whnf)
   ·rename_i ha
    rw [if_pos ha] at hup
    refine bldI siz0 encZ [⟨n, t, f⟩] rfl ?_
    conv => whnf
    refine appI [⟨n, t, f⟩] rfl lI ?_
    conv => whnf
    repeat' ((first|refine nI ?_|refine aI ?_|refine tI ?_|refine fI ?_|fail);conv => whnf)
    refine ⟨t + 1, ?_, by omega, by dsimp only; omega⟩
    dsimp only
    rw [hup]
    exact Sub.by_ [(1000, .old 42)] _ 400 rfl (auto_) (auto_)
   ·rename_i ha
    rw [if_neg ha, List.append_nil] at hup
    repeat' ((first|refine nI ?_|refine aI ?_|refine tI ?_|refine fI ?_|fail);conv => whnf)
    refine ⟨t + 1, ?_, by omega, by dsimp only; omega⟩
    dsimp only
    rw [hup]
    exact sI
  ·obtain rfl : t = n + 1 := by omega
   repeat' ((first|refine nI ?_|refine aI ?_|refine tI ?_|refine fI ?_|fail);conv => whnf)
   refine ⟨f + 1, ?_, by omega, by dsimp only; omega⟩
   dsimp only
   exact sI
 ·obtain rfl : f = n + 1 := by omega
  exact ⟨rfl, rfl⟩
theorem SizesR (p : Pro) (n : Nat) (hp : ¬ bigP p) (hv : validE p = 0) (hn : 1 ≤ n ∧ n ≤ 8) : PSpec Tryz.prog 42 [.agg (encP p), .int .i64 (n : Int)] (fun u => u = .tup [.sl siz0 encZ (szN p n), .int .i64 0]) := by
 have hV := validateR p (okP_of hp)
 rw [hv] at hV
 refine PSpec.intro tt_ok mx_ok Tryz.func42 rfl (by decide) ?_; (conv => whnf)
 refine boxP rfl ?_
 conv => whnf
 (refine oP (hV) ?_; conv => whnf)
 refine fI ?_
 conv => whnf
 refine dC (withinR _ _ _) (fun _ => ?_) (fun _ => ?_) <;> (conv => whnf)
 case refine_2 =>
  rename_i hw
  exact absurd ⟨by omega, by omega⟩ hw
 refine WPc.loopF tt_ok mx_ok (fun f : Nat => f ≤ n + 1) (fun f => [(8, .int .i64 (f : Int)), (7, .row 1000 (szJ p n f).length 3)]) (fun f => [(1000, rowZ (szJ p n f))]) (fun f => n + 1 - f) 0 (Nat.zero_le _) ?_; conv => whnf
 refine ⟨Sub.by_ [(1000, .nil 3)] _ 400 rfl (auto_) (auto_), ?_⟩
 rintro f hf
 conv => whnf
 refine cmpI ?_ ?_ <;> (intro g1; conv => whnf)
 ·refine WPc.loopF tt_ok mx_ok (fun t : Nat => t ≤ n + 1) (fun t => [(9, .int .i64 (t : Int)), (7, .row 1000 (szJ p n f ++ szI p n f t).length 3)]) (fun t => [(1000, rowZ (szJ p n f ++ szI p n f t))]) (fun t => n + 1 - t) 0 (Nat.zero_le _) ?_; conv => whnf
  have e0 : szJ p n f ++ szI p n f 0 = szJ p n f := by simp [szI]
  refine ⟨by rw [e0]; exact sI, ?_⟩
  rintro t ht
  have hB := szB p hn.2 (show f ≤ n by omega) ht
  conv => whnf
  refine cmpI ?_ ?_ <;> (intro g2; conv => whnf)
  ·have hup := szI_up (p := p) (n := n) (f := f) (t := t) (A := szJ p n f)
   refine dC (admissibleR p ⟨n, t, f⟩ hp (validE_res hv)) (fun _ => ?_) (fun _ => ?_) <;> (conv => whnf)
   ·rename_i ha
    rw [if_pos ha] at hup
    refine bldI siz0 encZ [⟨n, t, f⟩] rfl ?_
    conv => whnf
    refine appI [⟨n, t, f⟩] rfl lI ?_
    conv => whnf
    repeat' ((first|refine nI ?_|refine aI ?_|refine tI ?_|refine fI ?_|fail);conv => whnf)
    refine ⟨t + 1, ?_, by omega, by dsimp only; omega⟩
    dsimp only
    rw [hup]
    exact Sub.by_ [(1000, .old 39)] _ 400 rfl (auto_) (auto_)
   ·rename_i ha
    rw [if_neg ha, List.append_nil] at hup
    repeat' ((first|refine nI ?_|refine aI ?_|refine tI ?_|refine fI ?_|fail);conv => whnf)
    refine ⟨t + 1, ?_, by omega, by dsimp only; omega⟩
    dsimp only
    rw [hup]
    exact sI
  ·obtain rfl : t = n + 1 := by omega
   repeat' ((first|refine nI ?_|refine aI ?_|refine tI ?_|refine fI ?_|fail);conv => whnf)
   refine ⟨f + 1, ?_, by omega, by dsimp only; omega⟩
   dsimp only
   exact sI
 ·obtain rfl : f = n + 1 := by omega
  exact ⟨rfl, rfl⟩
theorem sizesF (p : Pro) (m : Int) (hp : ¬ bigP p) (hv : validE p = 0) (hm : m ≤ 8) : PSpec Tryz.prog 17 [.agg (encP p), .int .i64 m] (fun u => u = .sl siz0 encZ (szL p m.toNat)) := by
 refine PSpec.intro tt_ok mx_ok Tryz.func17 rfl (by decide) ?_; (conv => whnf)
 refine boxP rfl ?_
 conv => whnf
 refine WPc.loopF tt_ok mx_ok (fun k : Nat => k ≤ m.toNat) (fun k => [(6, .int .i64 ((k : Int) + 1)), (5, .row 1000 (szL p k).length 3)]) (fun k => [(1000, rowZ (szL p k))]) (fun k => m.toNat - k) 0 (Nat.zero_le _) ?_; conv => whnf
 refine ⟨Sub.by_ [(1000, .nil 3)] _ 400 rfl (auto_) (auto_), ?_⟩
 rintro k hk
 conv => whnf
 refine cmpI ?_ ?_ <;> (intro g1; conv => whnf)
 ·have h1 := szL_len p k (by omega)
  have h2 := szJ_len p (k + 1) (k + 1 + 1)
  have h3 : (k + 1 + 1) * (k + 1 + 1) ≤ 9 * 9 := Nat.mul_le_mul (by omega) (by omega)
  have hN : (szN p (k + 1)).length ≤ 100 := by unfold szN; omega
  rw [show ((k : Int) + 1) = ((k + 1 : Nat) : Int) by omega]
  (refine oP (SizesF p (k + 1) hp hv ⟨by omega, by omega⟩) ?_; conv => whnf)
  refine appI (szN p (k + 1)) rfl (by show ((szL p k).length + (szN p (k + 1)).length) * 24 ≤ 140737488355328; omega) ?_
  conv => whnf
  repeat' ((first|refine nI ?_|refine aI ?_|refine tI ?_|refine fI ?_|fail);conv => whnf)
  refine ⟨k + 1, ?_, by omega, by dsimp only; omega⟩
  dsimp only
  rw [szL]
  exact Sub.by_ [(1000, .old 22)] _ 400 rfl (auto_) (auto_)
 ·obtain rfl : k = m.toNat := by omega
  exact ⟨rfl, rfl⟩
theorem sizesR (p : Pro) (m : Int) (hp : ¬ bigP p) (hv : validE p = 0) (hm : m ≤ 8) : PSpec Tryz.prog 20 [.agg (encP p), .int .i64 m] (fun u => u = .sl siz0 encZ (szL p m.toNat)) := by
 refine PSpec.intro tt_ok mx_ok Tryz.func20 rfl (by decide) ?_; (conv => whnf)
 refine boxP rfl ?_
 conv => whnf
 refine WPc.loopF tt_ok mx_ok (fun k : Nat => k ≤ m.toNat) (fun k => [(6, .int .i64 ((k : Int) + 1)), (5, .row 1000 (szL p k).length 3)]) (fun k => [(1000, rowZ (szL p k))]) (fun k => m.toNat - k) 0 (Nat.zero_le _) ?_; conv => whnf
 refine ⟨Sub.by_ [(1000, .nil 3)] _ 400 rfl (auto_) (auto_), ?_⟩
 rintro k hk
 conv => whnf
 refine cmpI ?_ ?_ <;> (intro g1; conv => whnf)
 ·have h1 := szL_len p k (by omega)
  have h2 := szJ_len p (k + 1) (k + 1 + 1)
  have h3 : (k + 1 + 1) * (k + 1 + 1) ≤ 9 * 9 := Nat.mul_le_mul (by omega) (by omega)
  have hN : (szN p (k + 1)).length ≤ 100 := by unfold szN; omega
  rw [show ((k : Int) + 1) = ((k + 1 : Nat) : Int) by omega]
  (refine oP (SizesR p (k + 1) hp hv ⟨by omega, by omega⟩) ?_; conv => whnf)
  refine appI (szN p (k + 1)) rfl (by show ((szL p k).length + (szN p (k + 1)).length) * 24 ≤ 140737488355328; omega) ?_
  conv => whnf
  repeat' ((first|refine nI ?_|refine aI ?_|refine tI ?_|refine fI ?_|fail);conv => whnf)
  refine ⟨k + 1, ?_, by omega, by dsimp only; omega⟩
  dsimp only
  rw [szL]
  exact Sub.by_ [(1000, .old 22)] _ 400 rfl (auto_) (auto_)
 ·obtain rfl : k = m.toNat := by omega
  exact ⟨rfl, rfl⟩
end Go.Proofs.YtaeomngmcfdfpaaGreatDoor
