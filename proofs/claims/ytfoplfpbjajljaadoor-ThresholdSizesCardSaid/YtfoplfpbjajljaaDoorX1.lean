import Derived.Test.YtfoplfpbjajljaaDoorFuA
set_option linter.unusedVariables false
set_option linter.unusedSimpArgs false
namespace Go.Proofs.YtfoplfpbjajljaaDoor
set_option maxRecDepth 100000
set_option maxHeartbeats 8000000
structure Der where
 src : List Int
 mult : List Int
 div : Int
structure Nod where
 lines : List Der
 var : Int
 at_ : Int
 left : Int
 right : Int
def der0 : Der := ⟨[], [], 0⟩
def nod0 : Nod := ⟨[], 0, 0, 0, 0⟩
def dvC (vars : Nat) (rows : List Row) (d : Der) : Nat → List Int
 |0 => List.replicate vars 0
 |i + 1 =>
  if d.src.getD i 0 < 0 then (dvC vars rows d i).set (-1 - d.src.getD i 0).toNat ((dvC vars rows d i).getD (-1 - d.src.getD i 0).toNat 0 + d.mult.getD i 0)
  else (List.range vars).map fun j => (dvC vars rows d i).getD j 0 + d.mult.getD i 0 * (rows.getD (d.src.getD i 0).toNat row0).coef.getD j 0
def dvK (rows : List Row) (d : Der) : Nat → Int
 |0 => 0
 |i + 1 => if d.src.getD i 0 < 0 then dvK rows d i else dvK rows d i + d.mult.getD i 0 * (rows.getD (d.src.getD i 0).toNat row0).const
def trmB (vars n : Nat) (d : Der) (i : Nat) : Prop := (-(vars : Int) ≤ d.src.getD i 0 ∧ d.src.getD i 0 < n) ∧ 1 ≤ d.mult.getD i 0 ∧ d.mult.getD i 0 ≤ 65536
instance (vars n : Nat) (d : Der) (i : Nat) : Decidable (trmB vars n d i) := inferInstanceAs (Decidable (_ ∧ _))
def hedB (d : Der) : Prop := d.src.length = d.mult.length ∧ (1 ≤ d.src.length ∧ d.src.length ≤ 64) ∧ 1 ≤ d.div ∧ d.div ≤ 68719476736
instance (d : Der) : Decidable (hedB d) := inferInstanceAs (Decidable (_ ∧ _))
def flr (a d : Int) : Int := if a.tmod d < 0 then a.tdiv d - 1 else a.tdiv d
def dvR (vars : Nat) (rows : List Row) (d : Der) : Row := ⟨(dvC vars rows d d.src.length).map (·.tdiv d.div), flr (dvK rows d d.src.length) d.div⟩
def dvB (vars : Nat) (rows : List Row) (d : Der) : Prop :=
 hedB d ∧ (∀ i, i < d.src.length → trmB vars rows.length d i) ∧ (∀ j, j < vars → ((dvC vars rows d d.src.length).getD j 0).tmod d.div = 0) ∧ smlB (dvR vars rows d)
instance (vars : Nat) (rows : List Row) (d : Der) : Decidable (dvB vars rows d) := inferInstanceAs (Decidable (_ ∧ _))
def nodV (vars n i : Nat) (x : Nod) : Prop := x.var = -1 ∨ ((0 ≤ x.var ∧ x.var < vars) ∧ (0 ≤ x.at_ ∧ x.at_ ≤ 1048576) ∧ ((i : Int) < x.left ∧ x.left < n) ∧ ((i : Int) < x.right ∧ x.right < n))
instance (vars n i : Nat) (x : Nod) : Decidable (nodV vars n i x) := inferInstanceAs (Decidable (_ ∨ _))
def parM (nodes : List Nod) (c : Int) : Nat → Int
 |0 => 0
 |k + 1 => parM nodes c k + (if (nodes.getD k nod0).var = -1 then 0 else (if (nodes.getD k nod0).left = c then 1 else 0) + (if (nodes.getD k nod0).right = c then 1 else 0))
def linN (nodes : List Nod) : Nat → Nat
 |0 => 0
 |k + 1 => linN nodes k + (nodes.getD k nod0).lines.length
def wefB (vars : Nat) (nodes : List Nod) : Prop :=
 (1 ≤ nodes.length ∧ nodes.length ≤ 400) ∧ (∀ i, i < nodes.length → nodV vars nodes.length i (nodes.getD i nod0)) ∧ (∀ i, i < nodes.length → 0 < i → parM nodes i nodes.length = 1) ∧ linN nodes nodes.length ≤ 400
instance (vars : Nat) (nodes : List Nod) : Decidable (wefB vars nodes) := inferInstanceAs (Decidable (_ ∧ _))
def conB (r : Row) : Prop := (∀ j, j < r.coef.length → r.coef.getD j 0 ≤ 0) ∧ r.const < 0
instance (r : Row) : Decidable (conB r) := inferInstanceAs (Decidable (_ ∧ _))
def someC (l : List Row) : Prop := ∃ j, j < l.length ∧ conB (l.getD j row0)
instance (l : List Row) : Decidable (someC l) := inferInstanceAs (Decidable (∃ j, j < l.length ∧ _))
def lnR (vars : Nat) (rows : List Row) (l : List Der) : Nat → Option (List Row)
 |0 => some rows
 |k + 1 => match lnR vars rows l k with
  |none => none
  |some a => if dvB vars a (l.getD k der0) then some (a ++ [dvR vars a (l.getD k der0)]) else none
def splL (vars : Nat) (v k : Int) : Row := ⟨(List.replicate vars 0).set v.toNat (-1), k⟩
def splR (vars : Nat) (v k : Int) : Row := ⟨(List.replicate vars 0).set v.toNat 1, -k⟩
def cloB (vars : Nat) (nodes : List Nod) : Nat → Nat → List Row → Bool
 |0, _, _ => false
 |m + 1, i, rows => match lnR vars rows (nodes.getD i nod0).lines (nodes.getD i nod0).lines.length with
  |none => false
  |some a => if (nodes.getD i nod0).var = -1 then decide (someC a)
   else cloB vars nodes m (nodes.getD i nod0).left.toNat (a ++ [splL vars (nodes.getD i nod0).var (nodes.getD i nod0).at_]) && cloB vars nodes m (nodes.getD i nod0).right.toNat (a ++ [splR vars (nodes.getD i nod0).var ((nodes.getD i nod0).at_ + 1)])
def refB (s : LSys) (nodes : List Nod) : Prop := sysE s = 0 ∧ wefB s.vars.toNat nodes ∧ cloB s.vars.toNat nodes nodes.length 0 s.rows = true
instance (s : LSys) (nodes : List Nod) : Decidable (refB s nodes) := inferInstanceAs (Decidable (_ ∧ _))
structure OnR (vars : Nat) (x : List Int) (rows : List Row) : Prop where
 len : x.length = vars
 pos : ∀ j, 0 ≤ x.getD j 0
 sat : ∀ j, j < rows.length → 0 ≤ valR (rows.getD j row0) x
theorem OnR.app {vars : Nat} {x : List Int} {rows : List Row} {r : Row} (h : OnR vars x rows) (hr : 0 ≤ valR r x) : OnR vars x (rows ++ [r]) := by
 refine ⟨h.len, h.pos, fun j hj => ?_⟩
 rw [List.length_append] at hj
 by_cases e : j < rows.length
 ·rw [gD, List.getElem?_append_left e, ← gD]; exact h.sat j e
 ·have : j = rows.length := by simp only [List.length_cons, List.length_nil] at hj; omega
  subst this
  rw [gD, List.getElem?_append_right (Nat.le_refl _), Nat.sub_self]
  exact hr
set_option maxHeartbeats 16000000
def okS (s : LSys) : Prop := s.rows.length ≤ 140737488355328 ∧ ∀ j, j < s.rows.length → (s.rows.getD j row0).coef.length ≤ 140737488355328
theorem okS_valid {s : LSys} (h : sysE s = 0) : okS s := by
 obtain ⟨h1, h2, h3, _⟩ := sysE_ok h
 exact ⟨by omega, fun j hj => by have := h2 j hj; omega⟩
theorem withinF (n : Int) : PSpec Tryd.prog 44 [.int .i64 n] (fun u => u = .bool (decide (numB n))) := by
 refine PSpec.intro tt_ok mx_ok Tryd.func44 rfl (by decide) ?_; (conv => whnf)
 refine cmpI ?_ ?_ <;> (intro h; conv => whnf)
 ·refine cmpI ?_ ?_ <;> (intro h2; conv => whnf)
  ·exact ⟨dec_t ⟨h, h2⟩, rfl⟩
  ·exact ⟨dec_f (fun hh => h2 hh.2), rfl⟩
 ·exact ⟨dec_f (fun hh => h hh.1), rfl⟩
theorem smlF (r : Row) (hl : r.coef.length ≤ 140737488355328) : PSpec Tryd.prog 40 [.agg (encRw r)] (fun u => u = .bool (decide (smlB r))) := by
 refine PSpec.intro tt_ok mx_ok Tryd.func40 rfl (by decide) ?_; (conv => whnf)
 refine boxP rfl ?_
 conv => whnf
 refine WPc.loopF tt_ok mx_ok (fun k : Nat => k ≤ r.coef.length ∧ ∀ j, j < k → numB (r.coef.getD j 0)) (fun k => [(8, .int .i64 (k : Int))]) (fun _ => []) (fun k => r.coef.length - k) 0 ⟨Nat.zero_le _, fun j hj => absurd hj (Nat.not_lt_zero _)⟩ ?_; conv => whnf
 refine ⟨sI, ?_⟩
 rintro k ⟨hk, ha⟩
 conv => whnf
 refine cmpI ?_ ?_ <;> (intro h1; conv => whnf)
 ·refine nI ?_
  rw [tN]
  conv => whnf
  refine dC (withinF (r.coef.getD k 0)) (fun _ => ?_) (fun _ => ?_) <;> (conv => whnf)
  ·rename_i h2
   repeat' ((first|refine nI ?_|refine aI ?_|refine arU trivial (by omega) ?_|refine arB trivial (by omega) ?_|refine dI ?_|refine dR ?_|refine dP ?_|refine boxP rfl ?_|refine pI _ rfl ?_|refine rowSetI _ rfl ?_|refine tI ?_|refine fI ?_|refine cmpI (fun _ => ?_) (fun _ => ?_)) <;> conv => whnf)
   refine ⟨k + 1, sI, ⟨by omega, fun j hj => ?_⟩, by dsimp only; omega⟩
   by_cases e : j = k
   ·subst e; exact h2
   ·exact ha j (by omega)
  ·rename_i h2
   exact ⟨dec_f (fun h => h2 (h.1 k (by omega))), rfl⟩
 ·obtain rfl : k = r.coef.length := by omega
  by_cases h2 : numB r.const
  ·have hw := withinF r.const
   rw [decide_eq_true h2] at hw
   (refine oP (hw) ?_; conv => whnf)
   exact ⟨dec_t ⟨ha, h2⟩, rfl⟩
  ·have hw := withinF r.const
   rw [decide_eq_false h2] at hw
   (refine oP (hw) ?_; conv => whnf)
   exact ⟨dec_f (fun h => h2 h.2), rfl⟩
theorem sysE_a {s : LSys} (h : s.vars < 0 ∨ 96 < s.vars) : sysE s = 1 := by unfold sysE; rw [if_pos h]
theorem sysE_b {s : LSys} (h : ¬ widB s) : sysE s = 1 := by
 unfold sysE
 by_cases h0 : s.vars < 0 ∨ 96 < s.vars
 ·rw [if_pos h0]
 ·rw [if_neg h0, if_pos h]
theorem sysE_c {s : LSys} (h0 : ¬ (s.vars < 0 ∨ 96 < s.vars)) (h1 : widB s) (h : 192 < s.rows.length) : sysE s = 4 := by unfold sysE; rw [if_neg h0, if_neg (fun x => x h1), if_pos h]
theorem sysE_d {s : LSys} (h0 : ¬ (s.vars < 0 ∨ 96 < s.vars)) (h1 : widB s) (h2 : ¬ smlR s.rows) : sysE s = 4 := by
 unfold sysE
 rw [if_neg h0, if_neg (fun x => x h1)]
 by_cases h3 : 192 < s.rows.length
 ·rw [if_pos h3]
 ·rw [if_neg h3, if_pos h2]
theorem ValidateF (s : LSys) (hs : okS s) : PSpec Tryd.prog 21 [.agg (encSy s)] (fun u => u = .int .i64 (sysE s)) := by
 have hs1 := hs.1
 refine PSpec.intro tt_ok mx_ok Tryd.func21 rfl (by decide) ?_; (conv => whnf)
 refine boxP rfl ?_
 conv => whnf
 refine cmpI ?_ ?_ <;> (intro h; conv => whnf)
 ·exact ⟨avI (sysE_a (.inl h)).symm, rfl⟩
 refine cmpI (fun h' => ?_) (fun h' => ?_) <;> conv => whnf
 ·exact ⟨avI (sysE_a (.inr h')).symm, rfl⟩
 have h0 : ¬ (s.vars < 0 ∨ 96 < s.vars) := by omega
 refine WPc.loopF tt_ok mx_ok (fun k : Nat => k ≤ s.rows.length ∧ ∀ j, j < k → ((s.rows.getD j row0).coef.length : Int) = s.vars) (fun k => [(18, .int .i64 (k : Int))]) (fun _ => []) (fun k => s.rows.length - k) 0 ⟨Nat.zero_le _, fun j hj => absurd hj (Nat.not_lt_zero _)⟩ ?_; conv => whnf
 refine ⟨sI, ?_⟩
 rintro k ⟨hk, ha⟩
 conv => whnf
 refine cmpI ?_ ?_ <;> (intro h1; conv => whnf)
 ·refine nI ?_
  rw [tN]
  conv => whnf
  have hc := hs.2 k (by omega)
  refine cmpI ?_ ?_ <;> (intro h2; conv => whnf)
  ·exact ⟨avI (sysE_b fun hw => h2 (hw k (by omega))).symm, rfl⟩
  ·repeat' ((first|refine nI ?_|refine aI ?_|refine arU trivial (by omega) ?_|refine arB trivial (by omega) ?_|refine dI ?_|refine dR ?_|refine dP ?_|refine boxP rfl ?_|refine pI _ rfl ?_|refine rowSetI _ rfl ?_|refine tI ?_|refine fI ?_|refine cmpI (fun _ => ?_) (fun _ => ?_)) <;> conv => whnf)
   refine ⟨k + 1, sI, ⟨by omega, fun j hj => ?_⟩, by dsimp only; omega⟩
   by_cases e : j = k
   ·subst e; exact Classical.not_not.1 h2
   ·exact ha j (by omega)
 ·obtain rfl : k = s.rows.length := by omega
  have hw : widB s := ha
  refine cmpI ?_ ?_ <;> (intro h2; conv => whnf)
  ·exact ⟨avI (sysE_c h0 hw (by omega)).symm, rfl⟩
  refine WPc.loopF tt_ok mx_ok (fun k : Nat => k ≤ s.rows.length ∧ ∀ j, j < k → smlB (s.rows.getD j row0)) (fun k => [(36, .int .i64 (k : Int))]) (fun _ => []) (fun k => s.rows.length - k) 0 ⟨Nat.zero_le _, fun j hj => absurd hj (Nat.not_lt_zero _)⟩ ?_; conv => whnf
  refine ⟨sI, ?_⟩
  rintro k ⟨hk, hb⟩
  conv => whnf
  refine cmpI ?_ ?_ <;> (intro h1; conv => whnf)
  ·refine nI ?_
   rw [tN]
   conv => whnf
   have hc := hs.2 k (by omega)
   refine dC (smlF (s.rows.getD k row0) hc) (fun _ => ?_) (fun _ => ?_) <;> (conv => whnf)
   ·rename_i h3
    repeat' ((first|refine nI ?_|refine aI ?_|refine arU trivial (by omega) ?_|refine arB trivial (by omega) ?_|refine dI ?_|refine dR ?_|refine dP ?_|refine boxP rfl ?_|refine pI _ rfl ?_|refine rowSetI _ rfl ?_|refine tI ?_|refine fI ?_|refine cmpI (fun _ => ?_) (fun _ => ?_)) <;> conv => whnf)
    refine ⟨k + 1, sI, ⟨by omega, fun j hj => ?_⟩, by dsimp only; omega⟩
    by_cases e : j = k
    ·subst e; exact h3
    ·exact hb j (by omega)
   ·rename_i h3
    exact ⟨avI (sysE_d h0 hw (fun hh => h3 (hh k (by omega)))).symm, rfl⟩
  ·obtain rfl : k = s.rows.length := by omega
   exact ⟨avI (sysE_mk (by omega) hw (by omega) hb).symm, rfl⟩
theorem onPointF (x : List Int) (hl : x.length ≤ 140737488355328) : PSpec Tryd.prog 22 [.sl 0 encI x] (fun u => u = .bool (decide (pntB x))) := by
 refine PSpec.intro tt_ok mx_ok Tryd.func22 rfl (by decide) ?_; (conv => whnf)
 refine WPc.loopF tt_ok mx_ok (fun k : Nat => k ≤ x.length ∧ ∀ j, j < k → 0 ≤ x.getD j 0 ∧ x.getD j 0 ≤ 1048576) (fun k => [(7, .int .i64 (k : Int))]) (fun _ => []) (fun k => x.length - k) 0 ⟨Nat.zero_le _, fun j hj => absurd hj (Nat.not_lt_zero _)⟩ ?_; conv => whnf
 refine ⟨sI, ?_⟩
 rintro k ⟨hk, ha⟩
 conv => whnf
 refine cmpI ?_ ?_ <;> (intro h1; conv => whnf)
 ·refine nI ?_
  rw [tN]
  conv => whnf
  refine cmpI ?_ ?_ <;> (intro h2; conv => whnf)
  ·exact ⟨dec_f (fun h => by have := h k (by omega); omega), rfl⟩
  refine cmpI ?_ ?_ <;> (intro h3; conv => whnf)
  ·exact ⟨dec_f (fun h => by have := h k (by omega); omega), rfl⟩
  repeat' ((first|refine nI ?_|refine aI ?_|refine arU trivial (by omega) ?_|refine arB trivial (by omega) ?_|refine dI ?_|refine dR ?_|refine dP ?_|refine boxP rfl ?_|refine pI _ rfl ?_|refine rowSetI _ rfl ?_|refine tI ?_|refine fI ?_|refine cmpI (fun _ => ?_) (fun _ => ?_)) <;> conv => whnf)
  refine ⟨k + 1, sI, ⟨by omega, fun j hj => ?_⟩, by dsimp only; omega⟩
  by_cases e : j = k
  ·subst e; omega
  ·exact ha j (by omega)
 ·obtain rfl : k = x.length := by omega
  exact ⟨dec_t ha, rfl⟩
def valP (r : Row) (x : List Int) : Prop := r.coef.length = x.length ∧ x.length ≤ 96 ∧ pntB x
instance (r : Row) (x : List Int) : Decidable (valP r x) := inferInstanceAs (Decidable (_ ∧ _))
def valX (r : Row) (x : List Int) : Int × Int := if valP r x then (if smlB r then (valR r x, 0) else (0, 4)) else (0, 1)
def valA2 (a : Int × Int) : AV := .tup [.int .i64 a.1, .int .i64 a.2]
theorem valX_1 {r : Row} {x : List Int} (h : ¬ valP r x) : valX r x = (0, 1) := by unfold valX; rw [if_neg h]
theorem valX_4 {r : Row} {x : List Int} (h : valP r x) (h2 : ¬ smlB r) : valX r x = (0, 4) := by unfold valX; rw [if_pos h, if_neg h2]
theorem valX_0 {r : Row} {x : List Int} (h : valP r x) (h2 : smlB r) : valX r x = (valR r x, 0) := by unfold valX; rw [if_pos h, if_pos h2]
theorem ValueF (r : Row) (x : List Int) (hr : r.coef.length ≤ 140737488355328) (hx : x.length ≤ 140737488355328) :
  PSpec Tryd.prog 23 [.agg (encRw r), .sl 0 encI x] (fun u => u = valA2 (valX r x)) := by
 refine PSpec.intro tt_ok mx_ok Tryd.func23 rfl (by decide) ?_; (conv => whnf)
 refine boxP rfl ?_
 conv => whnf
 refine cmpI ?_ ?_ <;> (intro h; conv => whnf)
 ·exact ⟨by rw [valX_1 (fun hh => h (by have := hh.1; omega))]; rfl, rfl⟩
 refine cmpI (fun h' => ?_) (fun h' => ?_) <;> conv => whnf
 ·exact ⟨by rw [valX_1 (fun hh => by have := hh.2.1; omega)]; rfl, rfl⟩
 refine dC (onPointF x hx) (fun _ => ?_) (fun _ => ?_) <;> (conv => whnf)
 case refine_2 => rename_i h2; exact ⟨by rw [valX_1 (fun hh => h2 hh.2.2)]; rfl, rfl⟩
 rename_i h2
 have hp : valP r x := ⟨by omega, by omega, h2⟩
 refine dC (smlF r hr) (fun _ => ?_) (fun _ => ?_) <;> (conv => whnf)
 case refine_2 => rename_i h3; exact ⟨by rw [valX_4 hp h3]; rfl, rfl⟩
 rename_i h3
 refine WPc.loopF tt_ok mx_ok (fun k : Nat => k ≤ r.coef.length) (fun k => [(33, .int .i64 (k : Int)), (6, .int .i64 (r.const + lftK r.coef x k))]) (fun _ => []) (fun k => r.coef.length - k) 0 (Nat.zero_le _) ?_; conv => whnf
 refine ⟨?_, ?_⟩
 ·show Sub _ _ _ _ _
  rw [lftK, Int.add_zero]
  exact sI
 rintro k hk
 have hc := h3.2
 unfold numB at hc
 have hb := lftK_b h3.1 h2 (by omega) k (by omega)
 conv => whnf
 refine cmpI ?_ ?_ <;> (intro h1; conv => whnf)
 ·refine nI ?_
  rw [tN]
  conv => whnf
  refine nI ?_
  rw [tN]
  conv => whnf
  have hm := mul_36 (h3.1 k (by omega)) (h2 k (by omega))
  refine aI ?_
  conv => whnf
  refine aI ?_
  conv => whnf
  repeat' ((first|refine nI ?_|refine aI ?_|refine arU trivial (by omega) ?_|refine arB trivial (by omega) ?_|refine dI ?_|refine dR ?_|refine dP ?_|refine boxP rfl ?_|refine pI _ rfl ?_|refine rowSetI _ rfl ?_|refine tI ?_|refine fI ?_|refine cmpI (fun _ => ?_) (fun _ => ?_)) <;> conv => whnf)
  refine ⟨k + 1, ?_, by omega, by dsimp only; omega⟩
  dsimp only
  rw [lftK, ← Int.add_assoc]
  exact sI
 ·obtain rfl : k = r.coef.length := by omega
  exact ⟨by rw [valX_0 hp h3]; rfl, rfl⟩
theorem SatisfiesF (s : LSys) (x : List Int) (hs : okS s) (hx : x.length ≤ 140737488355328) : PSpec Tryd.prog 9 [.agg (encSy s), .sl 0 encI x] (fun u => u = .bool (decide (satB s x))) := by
 refine PSpec.intro tt_ok mx_ok Tryd.func9 rfl (by decide) ?_; (conv => whnf)
 refine boxP rfl ?_
 conv => whnf
 (refine oP (ValidateF s hs) ?_; conv => whnf)
 refine cmpI ?_ ?_ <;> (intro h; conv => whnf)
 ·exact ⟨dec_f (fun hh => h hh.1), rfl⟩
 have h0 : sysE s = 0 := Classical.not_not.1 h
 obtain ⟨a1, a2, a3, a4⟩ := sysE_ok h0
 refine cmpI (fun h' => ?_) (fun h' => ?_) <;> conv => whnf
 ·exact ⟨dec_f (fun hh => h' hh.2.1), rfl⟩
 have hl : (x.length : Int) = s.vars := Classical.not_not.1 h'
 refine dC (onPointF x hx) (fun _ => ?_) (fun _ => ?_) <;> (conv => whnf)
 case refine_2 => rename_i h2; exact ⟨dec_f (fun hh => h2 hh.2.2.1), rfl⟩
 rename_i h2
 refine WPc.loopF tt_ok mx_ok (fun k : Nat => k ≤ s.rows.length ∧ ∀ j, j < k → 0 ≤ valR (s.rows.getD j row0) x) (fun k => [(27, .int .i64 (k : Int))]) (fun _ => []) (fun k => s.rows.length - k) 0 ⟨Nat.zero_le _, fun j hj => absurd hj (Nat.not_lt_zero _)⟩ ?_; conv => whnf
 refine ⟨sI, ?_⟩
 rintro k ⟨hk, ha⟩
 conv => whnf
 refine cmpI ?_ ?_ <;> (intro h1; conv => whnf)
 ·refine nI ?_
  rw [tN]
  conv => whnf
  have hc := hs.2 k (by omega)
  have hw := a2 k (by omega)
  have hv := valX_0 (r := s.rows.getD k row0) (x := x) ⟨by omega, by omega, h2⟩ (a4 k (by omega))
  have hV := ValueF (s.rows.getD k row0) x hc hx
  rw [hv] at hV
  (refine oP (hV) ?_; conv => whnf)
  refine fI ?_
  conv => whnf
  refine cmpI ?_ ?_ <;> (intro h3; conv => whnf)
  ·exact ⟨dec_f (fun hh => by have := hh.2.2.2 k (by omega); omega), rfl⟩
  repeat' ((first|refine nI ?_|refine aI ?_|refine arU trivial (by omega) ?_|refine arB trivial (by omega) ?_|refine dI ?_|refine dR ?_|refine dP ?_|refine boxP rfl ?_|refine pI _ rfl ?_|refine rowSetI _ rfl ?_|refine tI ?_|refine fI ?_|refine cmpI (fun _ => ?_) (fun _ => ?_)) <;> conv => whnf)
  refine ⟨k + 1, sI, ⟨by omega, fun j hj => ?_⟩, by dsimp only; omega⟩
  by_cases e : j = k
  ·subst e; omega
  ·exact ha j (by omega)
 ·obtain rfl : k = s.rows.length := by omega
  exact ⟨dec_t ⟨h0, hl, h2, ha⟩, rfl⟩
end Go.Proofs.YtfoplfpbjajljaaDoor
