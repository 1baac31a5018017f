import Derived.Test.YtfoplfpbjajljaaGreatDoorFuA
set_option linter.unusedVariables false
set_option linter.unusedSimpArgs false
namespace Go.Proofs.YtfoplfpbjajljaaGreatDoor
set_option maxRecDepth 100000
set_option maxHeartbeats 8000000
structure Der where
 src : List Int
 mult : List Int
 div : Int
structure Nod where
 lines : List Der
 var : Int
 at_ : Int
 left : Int
 right : Int
def der0 : Der := ⟨[], [], 0⟩
def nod0 : Nod := ⟨[], 0, 0, 0, 0⟩
def dvC (vars : Nat) (rows : List Row) (d : Der) : Nat → List Int
 |0 => List.replicate vars 0
 |i + 1 =>
  if d.src.getD i 0 < 0 then (dvC vars rows d i).set (-1 - d.src.getD i 0).toNat ((dvC vars rows d i).getD (-1 - d.src.getD i 0).toNat 0 + d.mult.getD i 0)
  else (List.range vars).map fun j => (dvC vars rows d i).getD j 0 + d.mult.getD i 0 * (rows.getD (d.src.getD i 0).toNat row0).coef.getD j 0
def dvK (rows : List Row) (d : Der) : Nat → Int
 |0 => 0
 |i + 1 => if d.src.getD i 0 < 0 then dvK rows d i else dvK rows d i + d.mult.getD i 0 * (rows.getD (d.src.getD i 0).toNat row0).const
def trmB (vars n : Nat) (d : Der) (i : Nat) : Prop := (-(vars : Int) ≤ d.src.getD i 0 ∧ d.src.getD i 0 < n) ∧ 1 ≤ d.mult.getD i 0 ∧ d.mult.getD i 0 ≤ 65536
instance (vars n : Nat) (d : Der) (i : Nat) : Decidable (trmB vars n d i) := inferInstanceAs (Decidable (_ ∧ _))
def hedB (d : Der) : Prop := d.src.length = d.mult.length ∧ (1 ≤ d.src.length ∧ d.src.length ≤ 64) ∧ 1 ≤ d.div ∧ d.div ≤ 68719476736
instance (d : Der) : Decidable (hedB d) := inferInstanceAs (Decidable (_ ∧ _))
def flr (a d : Int) : Int := if a.tmod d < 0 then a.tdiv d - 1 else a.tdiv d
def dvR (vars : Nat) (rows : List Row) (d : Der) : Row := ⟨(dvC vars rows d d.src.length).map (·.tdiv d.div), flr (dvK rows d d.src.length) d.div⟩
def dvB (vars : Nat) (rows : List Row) (d : Der) : Prop :=
 hedB d ∧ (∀ i, i < d.src.length → trmB vars rows.length d i) ∧ (∀ j, j < vars → ((dvC vars rows d d.src.length).getD j 0).tmod d.div = 0) ∧ smlB (dvR vars rows d)
instance (vars : Nat) (rows : List Row) (d : Der) : Decidable (dvB vars rows d) := inferInstanceAs (Decidable (_ ∧ _))
def nodV (vars n i : Nat) (x : Nod) : Prop := x.var = -1 ∨ ((0 ≤ x.var ∧ x.var < vars) ∧ (0 ≤ x.at_ ∧ x.at_ ≤ 1048576) ∧ ((i : Int) < x.left ∧ x.left < n) ∧ ((i : Int) < x.right ∧ x.right < n))
instance (vars n i : Nat) (x : Nod) : Decidable (nodV vars n i x) := inferInstanceAs (Decidable (_ ∨ _))
def parM (nodes : List Nod) (c : Int) : Nat → Int
 |0 => 0
 |k + 1 => parM nodes c k + (if (nodes.getD k nod0).var = -1 then 0 else (if (nodes.getD k nod0).left = c then 1 else 0) + (if (nodes.getD k nod0).right = c then 1 else 0))
def linN (nodes : List Nod) : Nat → Nat
 |0 => 0
 |k + 1 => linN nodes k + (nodes.getD k nod0).lines.length
def wefB (vars : Nat) (nodes : List Nod) : Prop :=
 (1 ≤ nodes.length ∧ nodes.length ≤ 400) ∧ (∀ i, i < nodes.length → nodV vars nodes.length i (nodes.getD i nod0)) ∧ (∀ i, i < nodes.length → 0 < i → parM nodes i nodes.length = 1) ∧ linN nodes nodes.length ≤ 400
instance (vars : Nat) (nodes : List Nod) : Decidable (wefB vars nodes) := inferInstanceAs (Decidable (_ ∧ _))
def conB (r : Row) : Prop := (∀ j, j < r.coef.length → r.coef.getD j 0 ≤ 0) ∧ r.const < 0
instance (r : Row) : Decidable (conB r) := inferInstanceAs (Decidable (_ ∧ _))
def someC (l : List Row) : Prop := ∃ j, j < l.length ∧ conB (l.getD j row0)
instance (l : List Row) : Decidable (someC l) := inferInstanceAs (Decidable (∃ j, j < l.length ∧ _))
def lnR (vars : Nat) (rows : List Row) (l : List Der) : Nat → Option (List Row)
 |0 => some rows
 |k + 1 => match lnR vars rows l k with
  |none => none
  |some a => if dvB vars a (l.getD k der0) then some (a ++ [dvR vars a (l.getD k der0)]) else none
def splL (vars : Nat) (v k : Int) : Row := ⟨(List.replicate vars 0).set v.toNat (-1), k⟩
def splR (vars : Nat) (v k : Int) : Row := ⟨(List.replicate vars 0).set v.toNat 1, -k⟩
def cloB (vars : Nat) (nodes : List Nod) : Nat → Nat → List Row → Bool
 |0, _, _ => false
 |m + 1, i, rows => match lnR vars rows (nodes.getD i nod0).lines (nodes.getD i nod0).lines.length with
  |none => false
  |some a => if (nodes.getD i nod0).var = -1 then decide (someC a)
   else cloB vars nodes m (nodes.getD i nod0).left.toNat (a ++ [splL vars (nodes.getD i nod0).var (nodes.getD i nod0).at_]) && cloB vars nodes m (nodes.getD i nod0).right.toNat (a ++ [splR vars (nodes.getD i nod0).var ((nodes.getD i nod0).at_ + 1)])
def refB (s : LSys) (nodes : List Nod) : Prop := sysE s = 0 ∧ wefB s.vars.toNat nodes ∧ cloB s.vars.toNat nodes nodes.length 0 s.rows = true
instance (s : LSys) (nodes : List Nod) : Decidable (refB s nodes) := inferInstanceAs (Decidable (_ ∧ _))
structure OnR (vars : Nat) (x : List Int) (rows : List Row) : Prop where
 len : x.length = vars
 pos : ∀ j, 0 ≤ x.getD j 0
 sat : ∀ j, j < rows.length → 0 ≤ valR (rows.getD j row0) x
theorem OnR.app {vars : Nat} {x : List Int} {rows : List Row} {r : Row} (h : OnR vars x rows) (hr : 0 ≤ valR r x) : OnR vars x (rows ++ [r]) := by
 refine ⟨h.len, h.pos, fun j hj => ?_⟩
 rw [List.length_append] at hj
 by_cases e : j < rows.length
 ·rw [gD, List.getElem?_append_left e, ← gD]; exact h.sat j e
 ·have : j = rows.length := by simp only [List.length_cons, List.length_nil] at hj; omega
  subst this
  rw [gD, List.getElem?_append_right (Nat.le_refl _), Nat.sub_self]
  exact hr
set_option maxHeartbeats 16000000
def okS (s : LSys) : Prop := s.rows.length ≤ 140737488355328 ∧ ∀ j, j < s.rows.length → (s.rows.getD j row0).coef.length ≤ 140737488355328
theorem okS_valid {s : LSys} (h : sysE s = 0) : okS s := by
 obtain ⟨h1, h2, h3, _⟩ := sysE_ok h
 exact ⟨by omega, fun j hj => by have := h2 j hj; omega⟩
theorem withinF (n : Int) : PSpec Tryz.prog 93 [.int .i64 n] (fun u => u = .bool (decide (numB n))) := by
 refine PSpec.intro tt_ok mx_ok Tryz.func93 rfl (by decide) ?_; (conv => whnf)
 refine cmpI ?_ ?_ <;> (intro h; conv => whnf)
 ·refine cmpI ?_ ?_ <;> (intro h2; conv => whnf)
  ·exact ⟨dec_t ⟨h, h2⟩, rfl⟩
  ·exact ⟨dec_f (fun hh => h2 hh.2), rfl⟩
 ·exact ⟨dec_f (fun hh => h hh.1), rfl⟩
theorem smlF (r : Row) (hl : r.coef.length ≤ 140737488355328) : PSpec Tryz.prog 51 [.agg (encRw r)] (fun u => u = .bool (decide (smlB r))) := by
 refine PSpec.intro tt_ok mx_ok Tryz.func51 rfl (by decide) ?_; (conv => whnf)
 refine boxP rfl ?_
 conv => whnf
 refine WPc.loopF tt_ok mx_ok (fun k : Nat => k ≤ r.coef.length ∧ ∀ j, j < k → numB (r.coef.getD j 0)) (fun k => [(8, .int .i64 (k : Int))]) (fun _ => []) (fun k => r.coef.length - k) 0 ⟨Nat.zero_le _, fun j hj => absurd hj (Nat.not_lt_zero _)⟩ ?_; conv => whnf
 refine ⟨sI, ?_⟩
 rintro k ⟨hk, ha⟩
 conv => whnf
 refine cmpI ?_ ?_ <;> (intro h1; conv => whnf)
 ·refine nI ?_
  rw [tN]
  conv => whnf
  refine dC (withinF (r.coef.getD k 0)) (fun _ => ?_) (fun _ => ?_) <;> (conv => whnf)
  ·rename_i h2
   repeat' ((first|refine nI ?_|refine aI ?_|refine arU trivial (by omega) ?_|refine arB trivial (by omega) ?_|refine dI ?_|refine dR ?_|refine dP ?_|refine boxP rfl ?_|refine pI _ rfl ?_|refine rowSetI _ rfl ?_|refine tI ?_|refine fI ?_|refine cmpI (fun _ => ?_) (fun _ => ?_)) <;> conv => whnf)
   refine ⟨k + 1, sI, ⟨by omega, fun j hj => ?_⟩, by dsimp only; omega⟩
   by_cases e : j = k
   ·subst e; exact h2
   ·exact ha j (by omega)
  ·rename_i h2
   exact ⟨dec_f (fun h => h2 (h.1 k (by omega))), rfl⟩
 ·obtain rfl : k = r.coef.length := by omega
  by_cases h2 : numB r.const
  ·have hw := withinF r.const
   rw [decide_eq_true h2] at hw
   (refine oP (hw) ?_; conv => whnf)
   exact ⟨dec_t ⟨ha, h2⟩, rfl⟩
  ·have hw := withinF r.const
   rw [decide_eq_false h2] at hw
   (refine oP (hw) ?_; conv => whnf)
   exact ⟨dec_f (fun h => h2 h.2), rfl⟩
theorem sysE_a {s : LSys} (h : s.vars < 0 ∨ 96 < s.vars) : sysE s = 1 := by unfold sysE; rw [if_pos h]
theorem sysE_b {s : LSys} (h : ¬ widB s) : sysE s = 1 := by
 unfold sysE
 by_cases h0 : s.vars < 0 ∨ 96 < s.vars
 ·rw [if_pos h0]
 ·rw [if_neg h0, if_pos h]
theorem sysE_c {s : LSys} (h0 : ¬ (s.vars < 0 ∨ 96 < s.vars)) (h1 : widB s) (h : 192 < s.rows.length) : sysE s = 4 := by unfold sysE; rw [if_neg h0, if_neg (fun x => x h1), if_pos h]
theorem sysE_d {s : LSys} (h0 : ¬ (s.vars < 0 ∨ 96 < s.vars)) (h1 : widB s) (h2 : ¬ smlR s.rows) : sysE s = 4 := by
 unfold sysE
 rw [if_neg h0, if_neg (fun x => x h1)]
 by_cases h3 : 192 < s.rows.length
 ·rw [if_pos h3]
 ·rw [if_neg h3, if_pos h2]
theorem ValidateF (s : LSys) (hs : okS s) : PSpec Tryz.prog 25 [.agg (encSy s)] (fun u => u = .int .i64 (sysE s)) := by
 have hs1 := hs.1
 refine PSpec.intro tt_ok mx_ok Tryz.func25 rfl (by decide) ?_; (conv => whnf)
 refine boxP rfl ?_
 conv => whnf
 refine cmpI ?_ ?_ <;> (intro h; conv => whnf)
 ·exact ⟨avI (sysE_a (.inl h)).symm, rfl⟩
 refine cmpI (fun h' => ?_) (fun h' => ?_) <;> conv => whnf
 ·exact ⟨avI (sysE_a (.inr h')).symm, rfl⟩
 have h0 : ¬ (s.vars < 0 ∨ 96 < s.vars) := by omega
 refine WPc.loopF tt_ok mx_ok (fun k : Nat => k ≤ s.rows.length ∧ ∀ j, j < k → ((s.rows.getD j row0).coef.length : Int) = s.vars) (fun k => [(18, .int .i64 (k : Int))]) (fun _ => []) (fun k => s.rows.length - k) 0 ⟨Nat.zero_le _, fun j hj => absurd hj (Nat.not_lt_zero _)⟩ ?_; conv => whnf
 refine ⟨sI, ?_⟩
 rintro k ⟨hk, ha⟩
 conv => whnf
 refine cmpI ?_ ?_ <;> (intro h1; conv => whnf)
 ·refine nI ?_
  rw [tN]
  conv => whnf
  have hc := hs.2 k (by omega)
  refine cmpI ?_ ?_ <;> (intro h2; conv => whnf)
  ·exact ⟨avI (sysE_b fun hw => h2 (hw k (by omega))).symm, rfl⟩
  ·repeat' ((first|refine nI ?_|refine aI ?_|refine arU trivial (by omega) ?_|refine arB trivial (by omega) ?_|refine dI ?_|refine dR ?_|refine dP ?_|refine boxP rfl ?_|refine pI _ rfl ?_|refine rowSetI _ rfl ?_|refine tI ?_|refine fI ?_|refine cmpI (fun _ => ?_) (fun _ => ?_)) <;> conv => whnf)
   refine ⟨k + 1, sI, ⟨by omega, fun j hj => ?_⟩, by dsimp only; omega⟩
   by_cases e : j = k
   ·subst e; exact Classical.not_not.1 h2
   ·exact ha j (by omega)
 ·obtain rfl : k = s.rows.length := by omega
  have hw : widB s := ha
  refine cmpI ?_ ?_ <;> (intro h2; conv => whnf)
  ·exact ⟨avI (sysE_c h0 hw (by omega)).symm, rfl⟩
  refine WPc.loopF tt_ok mx_ok (fun k : Nat => k ≤ s.rows.length ∧ ∀ j, j < k → smlB (s.rows.getD j row0)) (fun k => [(36, .int .i64 (k : Int))]) (fun _ => []) (fun k => s.rows.length - k) 0 ⟨Nat.zero_le _, fun j hj => absurd hj (Nat.not_lt_zero _)⟩ ?_; conv => whnf
  refine ⟨sI, ?_⟩
  rintro k ⟨hk, hb⟩
  conv => whnf
  refine cmpI ?_ ?_ <;> (intro h1; conv => whnf)
  ·refine nI ?_
   rw [tN]
   conv => whnf
   have hc := hs.2 k (by omega)
   refine dC (smlF (s.rows.getD k row0) hc) (fun _ => ?_) (fun _ => ?_) <;> (conv => whnf)
   ·rename_i h3
    repeat' ((first|refine nI ?_|refine aI ?_|refine arU trivial (by omega) ?_|refine arB trivial (by omega) ?_|refine dI ?_|refine dR ?_|refine dP ?_|refine boxP rfl ?_|refine pI _ rfl ?_|refine rowSetI _ rfl ?_|refine tI ?_|refine fI ?_|refine cmpI (fun _ => ?_) (fun _ => ?_)) <;> conv => whnf)
    refine ⟨k + 1, sI, ⟨by omega, fun j hj => ?_⟩, by dsimp only; omega⟩
    by_cases e : j = k
    ·subst e; exact h3
    ·exact hb j (by omega)
   ·rename_i h3
    exact ⟨avI (sysE_d h0 hw (fun hh => h3 (hh k (by omega)))).symm, rfl⟩
  ·obtain rfl : k = s.rows.length := by omega
   exact ⟨avI (sysE_mk (by omega) hw (by omega) hb).symm, rfl⟩
def valP (r : Row) (x : List Int) : Prop := r.coef.length = x.length ∧ x.length ≤ 96 ∧ pntB x
instance (r : Row) (x : List Int) : Decidable (valP r x) := inferInstanceAs (Decidable (_ ∧ _))
end Go.Proofs.YtfoplfpbjajljaaGreatDoor
