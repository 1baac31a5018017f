
/-
  Contracts: the brancher's nodes, the rows it derives, the point it takes, by the program.
-/
import Derived.Test.YtgjmbmdaaahmkaaFxO
import Derived.Test.YtgjmbmdaaahmkaaFvF
import Derived.Test.YtgjmbmdaaahmkaaFxE
set_option linter.unusedVariables false
set_option linter.unusedSimpArgs false
namespace Go.Proofs.Ytgjmbmdaaahmkaa
set_option maxRecDepth 100000
set_option maxHeartbeats 32000000

def bxC (n lr nr ln nn : Nat) (li le : Int) (pc : AV) (g : Bool) : List AV := [.int .i64 n, .row lr nr 2, .row ln nn 5, .int .i64 li, .int .i64 le, pc, .bool g]
def brL (n : Nat) (rows : List Row) (nodes : List Nod) (li le : Int) (g : Bool) : List (Nat × Blk) :=
  [(6001, .box 53 (bxC n 6002 rows.length 6003 nodes.length li le .nilsl g)), (6002, .row 42 row0 encRw rows), (6003, .row 63 nod0 encNo nodes)]
def brN (n : Nat) (rows : List Row) (nodes : List Nod) (li le : Int) (pc : AV) (g : Bool) : List (Nat × Blk) :=
  [(6001, .box 53 (bxC n 6004 rows.length 6005 nodes.length li le pc g)), (6002, .dead), (6003, .dead), (6004, .row 42 row0 encRw rows), (6005, .row 63 nod0 encNo nodes)]
def lmO (r s : Nat) : LMap := [(6001, .old 6001), (6002, .old 6002), (6003, .old 6003), (6004, .old r), (6005, .old s)]
theorem openF (n : Nat) (rows : List Row) (nodes : List Nod) (li le : Int) (g : Bool) (hn : nodes.length ≤ 100000) (hl : 0 ≤ le ∧ le ≤ 100000) :
    Spec Try.prog 16 [.ptr 6001 0] (Mem.ofL (brL n rows nodes li le g))
      (fun u M => (le = 0 ∧ u = .int .i64 (-1) ∧ M = Mem.ofL (brN n rows nodes li le .nilsl true)) ∨ (le ≠ 0 ∧ u = .int .i64 nodes.length ∧ M = Mem.ofL (brN n rows (nodes ++ [nodN]) li (le - 1) .nilsl g))) := by
  refine Spec.renorm 400 (R := fun u M => (le = 0 ∧ u = .int .i64 (-1) ∧ memR (lmO 6002 6003) 400 M (brN n rows nodes li le .nilsl true)) ∨ (le ≠ 0 ∧ u = .int .i64 nodes.length ∧ memR (lmO 6002 25) 400 M (brN n rows (nodes ++ [nodN]) li (le - 1) .nilsl g))) ?_ ?_
  case refine_2 =>
    rintro u M' (⟨h0, rfl, hM⟩ | ⟨h0, rfl, hM⟩)
    · exact ⟨_, _, .int .i64 (-1), rfl, hM, rfl, .inl ⟨h0, rfl, rfl⟩⟩
    · exact ⟨_, _, .int .i64 nodes.length, rfl, hM, rfl, .inr ⟨h0, rfl, rfl⟩⟩
  refine Spec.intro tt_ok mx_ok (brL n rows nodes li le g) Try.func16 rfl (by decide) ?_
  conv => whnf
  refine cmpI (fun h1 => ?_) (fun h1 => ?_) <;> conv => whnf
  · exact .inl ⟨h1, rfl, auto_⟩
  · refine arI trivial (by omega) ?_
    conv => whnf
    first | refine drawI (by decide +kernel) ?_ | refine drawG (by decide +kernel) ?_ | skip
    conv => whnf
    refine bldW nod0 encNo [nodN] ⟨⟨.inr ⟨rfl, _, _, _, rfl⟩, .inl rfl, .inl rfl, .inl rfl, .inl rfl, trivial⟩, trivial⟩ ?_
    conv => whnf
    first | refine leakN ?_ | skip
    conv => whnf
    refine appI [nodN] rfl (by simp only [List.length_cons, List.length_nil]; omega) ?_
    conv => whnf
    refine arI trivial (by simp only [List.length_cons, List.length_nil]; omega) ?_
    conv => whnf
    refine .inr ⟨h1, avI (by simp only [List.length_append, List.length_cons, List.length_nil]; omega), auto_⟩
def nodA (nodes : List Nod) (i : Nat) (d : Der) : List Nod := nodes.set i { nodes.getD i nod0 with lines := (nodes.getD i nod0).lines ++ [d] }
theorem addF (n i : Nat) (rows : List Row) (nodes : List Nod) (li le : Int) (g : Bool) (d : Der) (hn : n ≤ 96) (hr : rdyR n rows) (hl : rows.length ≤ 1000000) (hi : i < nodes.length) (hk : (nodes.getD i nod0).lines.length ≤ 1000000) (hd : okD d) (hb : 0 ≤ li ∧ li ≤ 100000) :
    Spec Try.prog 29 [.ptr 6001 0, .int .i64 (i : Int), .agg (encDe d)] (Mem.ofL (brL n rows nodes li le g))
      (fun u M => ((dvB n rows d ∧ li ≠ 400) ∧ u = .bool true ∧ M = Mem.ofL (brN n (rows ++ [dvR n rows d]) (nodA nodes i d) (li + 1) le .nilsl g)) ∨ (¬ (dvB n rows d ∧ li ≠ 400) ∧ u = .bool false ∧ M = Mem.ofL (brN n rows nodes li le .nilsl true))) := by
  refine Spec.renorm 400 (R := fun u M => ((dvB n rows d ∧ li ≠ 400) ∧ u = .bool true ∧ memR (lmO 70 6003) 400 M (brN n (rows ++ [dvR n rows d]) (nodA nodes i d) (li + 1) le .nilsl g)) ∨ (¬ (dvB n rows d ∧ li ≠ 400) ∧ u = .bool false ∧ memR (lmO 6002 6003) 400 M (brN n rows nodes li le .nilsl true))) ?_ ?_
  case refine_2 =>
    rintro u M' (⟨h0, rfl, hM⟩ | ⟨h0, rfl, hM⟩)
    · exact ⟨_, _, .bool true, rfl, hM, rfl, .inl ⟨h0, rfl, rfl⟩⟩
    · exact ⟨_, _, .bool false, rfl, hM, rfl, .inr ⟨h0, rfl, rfl⟩⟩
  refine Spec.intro tt_ok mx_ok (brL n rows nodes li le g) Try.func29 rfl (by decide) ?_
  conv => whnf
  refine boxP rfl ?_
  conv => whnf
  first | refine drawI (by decide +kernel) ?_ | refine drawG (by decide +kernel) ?_ | refine drawO (by decide +kernel) ?_ | skip
  conv => whnf
  refine Spec.call [(7001, .old 7), (7002, .old 6002)] (chkL n [] rows) 400 rfl (auto_) (auto_) (deriveF n [] rows d hn hr (by omega) hd) ?_
  rintro u M' ⟨hu, rfl⟩
  rcases hu with ⟨hdv, rfl⟩ | ⟨hdv, r, rfl⟩
  · refine ⟨[(7, .old 7001), (6002, .old 7002)], [(7, .box 47 [.int .i64 n, .sl nod0 encNo [], .row 6002 rows.length 2]), (6002, .row 42 row0 encRw rows)], .tup [.agg (encRw (dvR n rows d)), .bool true], rfl, (auto_), (auto_), ?_⟩
    conv => whnf
    refine cmpI (fun h1 => ?_) (fun h1 => ?_) <;> conv => whnf
    · exact .inr ⟨fun h => h.2 h1, rfl, auto_⟩
    · refine arI trivial (by omega) ?_
      conv => whnf
      refine needI (by omega) ?_
      rw [Int.toNat_natCast]
      conv => whnf
      refine needI (by show (nodes.getD i nod0).lines.length * 56 ≤ 140737488355328; omega) ?_
      conv => whnf
      refine bldI der0 encDe [d] rfl ?_
      conv => whnf
      refine appI [d] rfl (by simp only [List.length_cons, List.length_nil]; omega) ?_
      conv => whnf
      refine rowSetI { nodes.getD i nod0 with lines := (nodes.getD i nod0).lines ++ [d] } rfl ?_
      conv => whnf
      first | refine drawI (by decide +kernel) ?_ | refine drawG (by decide +kernel) ?_ | refine drawO (by decide +kernel) ?_ | skip
      conv => whnf
      refine bldI row0 encRw [dvR n rows d] rfl ?_
      conv => whnf
      first | refine leakN ?_ | skip
      conv => whnf
      refine appI [dvR n rows d] rfl (by simp only [List.length_cons, List.length_nil]; omega) ?_
      conv => whnf
      refine .inl ⟨⟨hdv, h1⟩, rfl, ?_⟩
      have e : (nodA nodes i d).length = nodes.length := List.length_set
      unfold brN
      rw [e]
      exact (auto_)
  · refine ⟨[(7, .old 7001), (6002, .old 7002)], [(7, .box 47 [.int .i64 n, .sl nod0 encNo [], .row 6002 rows.length 2]), (6002, .row 42 row0 encRw rows)], .tup [.agg (encRw r), .bool false], rfl, (auto_), (auto_), ?_⟩
    conv => whnf
    exact .inr ⟨fun h => hdv h.1, rfl, auto_⟩
end Go.Proofs.Ytgjmbmdaaahmkaa
