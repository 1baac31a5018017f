import Derived.Test.YtfoplfpbjajljaaDoorFtE
set_option linter.unusedVariables false
set_option linter.unusedSimpArgs false
namespace Go.Proofs.YtfoplfpbjajljaaDoor
set_option maxRecDepth 100000
set_option maxHeartbeats 8000000
def preX (vars : List Vb) (k : Nat) (x : List Int) : Nat → List Int
 |0 => []
 |i + 1 => if preB k (vars.getD i vb0) = true then preX vars k x i ++ [x.getD i 0] else preX vars k x i
theorem preX_len (vars : List Vb) (k : Nat) (x : List Int) : ∀ i, (preX vars k x i).length ≤ i
 |0 => Nat.le_refl _
 |i + 1 => by
  have := preX_len vars k x i
  rw [preX]
  split
  ·rw [List.length_append]; simp only [List.length_cons, List.length_nil]; omega
  ·omega
theorem preX_map {vars : List Vb} (k : Nat) (a : Co) : ∀ i, i ≤ vars.length → preX vars k (vars.map a) i = ((vars.take i).filter (preB k)).map a
 |0, _ => by simp [preX]
 |i + 1, h => by
  rw [preX, preX_map k a i (by omega), take_succ_getD vb0 (by omega), List.filter_append, List.map_append, row_get a (by omega)]
  split
  ·rename_i hb
   rw [List.filter_cons_of_pos hb]
   rfl
  ·rename_i hb
   rw [List.filter_cons_of_neg hb]
   simp
theorem preX_sat {p : Pro} {q : Prp} (h : propE p q = 0) {sch : List Int} (hs : schB (thrL p.rules).length sch) {k : Nat} (hk : k ≤ sch.length) {x : List Int} (hsat : satB (sysB p q sch (-1)) x) :
  satB (sysB p q (sch.take k) (-1)) (preX (varL p q sch) k x (varL p q sch).length) := by
 have hx : x.length = (varL p q sch).length := by
  have := hsat.2.1
  unfold sysB at this
  dsimp only at this
  omega
 have hm := pt_map (varL_nodup h sch) hx
 rw [← hm] at hsat ⊢
 rw [preX_map k _ _ (Nat.le_refl _), List.take_length]
 exact pre_sat h hs hk hsat
end Go.Proofs.YtfoplfpbjajljaaDoor
