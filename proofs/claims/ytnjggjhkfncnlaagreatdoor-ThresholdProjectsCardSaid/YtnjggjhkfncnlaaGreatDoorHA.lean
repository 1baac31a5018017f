import Derived.Test.YtnjggjhkfncnlaaGreatDoorGC
import Derived.Test.YtnjggjhkfncnlaaGreatDoorY1
import Derived.Test.YtnjggjhkfncnlaaGreatDoorGA
import Derived.Test.YtnjggjhkfncnlaaGreatDoorFtE
import Derived.Test.YtnjggjhkfncnlaaGreatDoorM6
import Derived.Test.YtnjggjhkfncnlaaGreatDoorW3
set_option linter.unusedVariables false
set_option linter.unusedSimpArgs false
namespace Go.Proofs.YtnjggjhkfncnlaaGreatDoor
set_option maxRecDepth 100000
set_option maxHeartbeats 16000000
end Go.Proofs.YtnjggjhkfncnlaaGreatDoor
namespace Go.Proofs.YtnjggjhkfncnlaaGreatDoor
open Go.ChangeShapes Go.WideShapes Go.ChangeAt Go.RowKit
end Go.Proofs.YtnjggjhkfncnlaaGreatDoor
namespace Go.Proofs.YtnjggjhkfncnlaaGreatDoor
set_option maxRecDepth 100000
set_option maxHeartbeats 16000000
set_option maxHeartbeats 4000000
section
variable {p : Pro} {q : Prp} {sch : List Int} {number : Int} {a : Co}
end
end Go.Proofs.YtnjggjhkfncnlaaGreatDoor
namespace Go.Proofs.YtnjggjhkfncnlaaGreatDoor
set_option maxRecDepth 100000
set_option maxHeartbeats 4000000
theorem getD_set_ne {l : List Int} {k j : Nat} (d : Int) (h : k ≠ j) : (l.set k d).getD j 0 = l.getD j 0:=by
 rw [gD, gD, List.getElem?_set_ne h]
theorem ap_states {c : Cfg} {r : Rul} {x : Stp} (hk : r.kind = 1) (hi : 0 ≤ x.process ∧ x.process < c.states.length) : (apC c r x).states = c.states.set x.process.toNat r.dst :=
 (st_of (by simp) fun j hj=>by
  rw [getD_set]
  unfold stG
  by_cases e : x.process.toNat = j
  ·rw [if_pos ⟨e, by omega⟩, if_pos (by omega)]
  ·rw [if_neg (fun h=>e h.1), if_neg (by omega), if_neg (by omega), if_neg (by omega)]).symm
theorem var_three {p : Pro} {q : Prp} {sch : List Int} {x : Int} : (⟨3, 0, x⟩ : Vb) ∈ varL p q sch ↔ x ∈ stL' p q:=by
 unfold varL stV
 simp only [List.mem_append]
 constructor
 ·rintro ((h | h | h) | h)
  ·simp only [List.mem_cons, List.not_mem_nil, or_false] at h
   rcases h with h | h | h <;> (have:=congrArg Vb.kind h; dsimp only at this; omega)
  ·obtain ⟨y, hy, e⟩:=List.mem_map.1 h
   have:=congrArg Vb.idx e
   dsimp only at this
   subst this
   exact hy
  ·split at h
   ·obtain ⟨y, hy, e⟩:=List.mem_map.1 h
    have:=congrArg Vb.kind e; dsimp only at this; omega
   ·cases h
  ·obtain ⟨j, _, h⟩:=List.mem_flatMap.1 h
   obtain ⟨r, _, h⟩:=segV_mem h
   have:=(ruV_mem h).1
   dsimp only at this; omega
 ·intro h
  exact .inl (.inr (.inl (List.mem_map.2 ⟨x, h, rfl⟩)))
theorem var_four {p : Pro} {q : Prp} {sch : List Int} {x : Int} : (⟨4, 0, x⟩ : Vb) ∈ varL p q sch ↔ whB p ∧ x ∈ p.initial:=by
 unfold varL stV
 simp only [List.mem_append]
 constructor
 ·rintro ((h | h | h) | h)
  ·simp only [List.mem_cons, List.not_mem_nil, or_false] at h
   rcases h with h | h | h <;> (have:=congrArg Vb.kind h; dsimp only at this; omega)
  ·obtain ⟨y, hy, e⟩:=List.mem_map.1 h
   have:=congrArg Vb.kind e; dsimp only at this; omega
  ·split at h
   ·rename_i hw
    obtain ⟨y, hy, e⟩:=List.mem_map.1 h
    have:=congrArg Vb.idx e
    dsimp only at this
    subst this
    exact ⟨hw, hy⟩
   ·cases h
  ·obtain ⟨j, _, h⟩:=List.mem_flatMap.1 h
   obtain ⟨r, _, h⟩:=segV_mem h
   have:=(ruV_mem h).1
   dsimp only at this; omega
 ·rintro ⟨hw, h⟩
  exact .inl (.inr (.inr (by rw [if_pos hw]; exact List.mem_map.2 ⟨x, h, rfl⟩)))
section
variable (p : Pro) (q : Prp) (sch : List Int) (x : List Int)
end
end Go.Proofs.YtnjggjhkfncnlaaGreatDoor
