
/-
  The solver plainly: nodes, branches; a refutation that it gives is correct, a point that it gives satisfies the system.
-/
import Derived.Test.YtgjmbmdaaahmkaaFvD
set_option linter.unusedVariables false
set_option linter.unusedSimpArgs false
namespace Go.Proofs.Ytgjmbmdaaahmkaa
set_option maxRecDepth 100000
set_option maxHeartbeats 8000000

/-! ### the derivation of a bad row -/
def fkG (l : List (Int × Int)) : Nat → Int
  | 0 => 0
  | k + 1 => (Int.gcd (fkG l k) (l.getD k (0, 0)).2 : Int)
def fkE (n : Nat) (t : Tab) (r : Nat) : Der := ⟨(fkK n t r n).map (·.1), (fkK n t r n).map (fun a => a.2.tdiv (fkG (fkK n t r n) (fkK n t r n).length)), 1⟩
def fkD (n : Nat) (t : Tab) (r : Nat) : Option Der :=
  if (∃ j, j < (fkK n t r n).length ∧ 65536 < (fkE n t r).mult.getD j 0) ∨ 64 < (fkK n t r n).length then none else some (fkE n t r)
theorem fkG_dvd (l : List (Int × Int)) : ∀ k j, j < k → fkG l k ∣ (l.getD j (0, 0)).2
  | 0, j, h => by omega
  | k + 1, j, h => by
    rw [fkG]
    by_cases e : j = k
    · subst e; exact Int.gcd_dvd_right ..
    · exact Int.dvd_trans (Int.gcd_dvd_left ..) (fkG_dvd l k j (by omega))
theorem fkG_pos {l : List (Int × Int)} (h0 : 0 < (l.getD 0 (0, 0)).2) : ∀ k, 0 < k → 0 < fkG l k
  | 0, h => by omega
  | k + 1, _ => by
    rw [fkG]
    by_cases e : k = 0
    · subst e
      rw [fkG]
      have := Int.gcd_zero_left (a := (l.getD 0 (0, 0)).2)
      omega
    · have := fkG_pos h0 k (by omega)
      have : Int.gcd (fkG l k) (l.getD k (0, 0)).2 ≠ 0 := fun hh => by
        have := (Int.gcd_eq_zero_iff.1 hh).1
        omega
      omega
theorem fkK_head (n : Nat) (t : Tab) (r : Nat) : ∀ k, 0 < (fkK n t r k).length ∧ (fkK n t r k).getD 0 (0, 0) = fkA n t r
  | 0 => by simp [fkK]
  | k + 1 => by
    obtain ⟨a, b⟩ := fkK_head n t r k
    rw [fkK]
    split
    · refine ⟨by rw [List.length_append]; omega, ?_⟩
      rw [List.getD_eq_getElem?_getD, List.getElem?_append_left a, ← List.getD_eq_getElem?_getD]
      exact b
    · exact ⟨a, b⟩
theorem fkE_get (n : Nat) (t : Tab) (r : Nat) {k : Nat} (hk : k < (fkK n t r n).length) : (fkE n t r).mult.getD k 0 = ((fkK n t r n).getD k (0, 0)).2.tdiv (fkG (fkK n t r n) (fkK n t r n).length) := by
  unfold fkE
  dsimp only
  rw [getD_elem 0 (by simpa using hk), List.getElem_map, getD_elem (0, 0) hk]
section
variable {m n : Nat} {rows : List Row} {t : Tab}
theorem fkE_con (h : TabOk m n rows t) (hw : ∀ i, i < m → (rows.getD i row0).coef.length = n) (hx : rdyR n rows) {r : Nat} (hr : r < m) (hneg : ∀ j, j < n → cl t r (j + 1) ≤ 0) (h0 : cl t r 0 < 0) (hd : dvB n rows (fkE n t r)) : conB (dvR n rows (fkE n t r)) := by
  have hh := fkK_head n t r n
  have hA : 0 < (fkA n t r).2 := by unfold fkA; split <;> exact h.dp.1
  have hg : 0 < fkG (fkK n t r n) (fkK n t r n).length := fkG_pos (by rw [hh.2]; exact hA) _ hh.1
  refine fk_con h hw hx hr hneg h0 hg (d := fkE n t r) rfl rfl (by unfold fkE; simp) (fun k hk => ?_) hd
  have hk' : k < (fkK n t r n).length := by unfold fkE at hk; simpa using hk
  rw [fkE_get n t r hk']
  exact Int.mul_tdiv_cancel' (fkG_dvd _ _ _ hk')

/-! ### the first variable whose value is not an integer -/
def frK (n : Nat) (t : Tab) : Nat → Int × Int
  | 0 => (-1, 0)
  | i + 1 => if t.bas.getD i 0 < n ∧ (cl t i 0).tmod t.den ≠ 0 ∧ ((frK n t i).1 < 0 ∨ t.bas.getD i 0 < (frK n t i).1) then (t.bas.getD i 0, (cl t i 0).tdiv t.den) else frK n t i
theorem frK_rng (hb : ∀ i, i < m → 0 ≤ t.bas.getD i 0) (hd : 0 < t.den) (h0 : ∀ i, i < m → 0 ≤ cl t i 0) : ∀ k, k ≤ m → -1 ≤ (frK n t k).1 ∧ (frK n t k).1 < n ∧ 0 ≤ (frK n t k).2
  | 0, _ => by
    rw [frK]
    dsimp only
    omega
  | k + 1, hk => by
    have ih := frK_rng hb hd h0 k (by omega)
    rw [frK]
    split
    · rename_i hc
      have := hb k (by omega)
      refine ⟨by dsimp only; omega, hc.1, ?_⟩
      exact Int.tdiv_nonneg (h0 k (by omega)) (by omega)
    · exact ih
theorem frK_none (hb : ∀ i, i < m → 0 ≤ t.bas.getD i 0) : ∀ k, k ≤ m → (frK n t k).1 < 0 → ∀ i, i < k → t.bas.getD i 0 < n → (cl t i 0).tmod t.den = 0
  | 0, _, _, i, hi, _ => by omega
  | k + 1, hk, h, i, hi, hn => by
    rw [frK] at h
    split at h
    · rename_i hc
      have := hb k (by omega)
      dsimp only at h
      omega
    · rename_i hc
      by_cases e : i = k
      · subst e
        refine Classical.byContradiction fun hm => hc ⟨hn, hm, .inl h⟩
      · exact frK_none hb k (by omega) h i (by omega) hn
end

/-! ### the solver's state -/
structure Br where
  rows : List Row
  nodes : List Nod
  lines : Nat
  left : Nat
  point : Option (List Int)
  gave : Bool
def nodN : Nod := ⟨[], -1, 0, 0, 0⟩
def Br.give (b : Br) : Br := { b with gave := true }
def openB (b : Br) : Br := { b with nodes := b.nodes ++ [nodN], left := b.left - 1 }
def addB (n i : Nat) (b : Br) (d : Der) : Br × Bool :=
  if dvB n b.rows d ∧ b.lines ≠ 400 then
    ({ b with rows := b.rows ++ [dvR n b.rows d], lines := b.lines + 1, nodes := b.nodes.set i { b.nodes.getD i nod0 with lines := (b.nodes.getD i nod0).lines ++ [d] } }, true)
  else (b.give, false)
/-- the greatest common divisor of a row's coefficients -/
def divK (r : Row) : Nat → Int
  | 0 => 0
  | k + 1 => (Int.gcd (divK r k) (r.coef.getD k 0) : Int)
def divR (r : Row) : Int := divK r r.coef.length
/-- the rows that divide are sharpened, of the first k -/
def shK (n : Nat) (b : Br) : Nat → Br × Bool
  | 0 => (b, true)
  | k + 1 =>
    if (shK n b k).2 = false then shK n b k
    else if 1 < divR (b.rows.getD k row0) ∧ (b.rows.getD k row0).const.tmod (divR (b.rows.getD k row0)) ≠ 0 then addB n 0 (shK n b k).1 ⟨[(k : Int)], [1], divR (b.rows.getD k row0)⟩
    else shK n b k
def setLb (i : Nat) (v a l : Int) (b : Br) : Br := { b with nodes := b.nodes.set i { b.nodes.getD i nod0 with var := v, at_ := a, left := l } }
def setRb (i : Nat) (v a r : Int) (b : Br) : Br := { b with nodes := b.nodes.set i { b.nodes.getD i nod0 with var := v, at_ := a, right := r } }
def Br.put (b : Br) (l : List Row) (r : Row) : Br := { b with rows := l ++ [r] }
def Br.cut (b : Br) (m : Nat) : Br := { b with rows := b.rows.take m }
def brB (n : Nat) : Nat → Br → Nat → Br
  | 0, b, _ => b.give
  | k + 1, b0, i =>
    let s := if i = 0 then shK n b0 b0.rows.length else (b0, true)
    let b := s.1
    if s.2 = false then b
    else if someC b.rows then b
    else if ¬ newB b.rows then b.give
    else match slT b.rows.length n 5000 (newT n b.rows) with
      | none => b.give
      | some (t, bad) =>
        if 0 ≤ bad then
          match fkD n t bad.toNat with
          | none => b.give
          | some d => (addB n i b d).1
        else
          let v := (frK n t b.rows.length).1
          let a := (frK n t b.rows.length).2
          if v < 0 then (if pntB (ptK n t b.rows.length) then { b with point := some (ptK n t b.rows.length) } else b.give)
          else if 1048576 < a then b.give
          else if b.left = 0 then b.give
          else
            let c := (brB n k ((setLb i v a b.nodes.length (openB b)).put b.rows (splL n v a)) b.nodes.length).cut b.rows.length
            if c.point.isSome = true ∨ c.gave = true then c
            else if c.left = 0 then c.give
            else (brB n k ((setRb i v a c.nodes.length (openB c)).put b.rows (splR n v (a + 1))) c.nodes.length).cut b.rows.length
structure Ocm where
  kind : Int
  point : List Int
  nodes : List Nod
def solB (s : LSys) (nodes : Int) : Br := brB s.vars.toNat 401 ⟨s.rows, [nodN], 0, (min nodes 400 - 1).toNat, none, false⟩ 0
/-- the outcome of the solver for a valid system -/
def solF (s : LSys) (nodes : Int) : Ocm :=
  if nodes ≤ 0 then ⟨0, [], []⟩
  else match (solB s nodes).point with
    | some x => ⟨1, x, []⟩
    | none => if (solB s nodes).gave = true then ⟨0, [], []⟩ else ⟨2, [], (solB s nodes).nodes⟩

/-! ### what a branch leaves -/
theorem lnR_congr {n : Nat} {rows : List Row} {l l' : List Der} : ∀ {k : Nat}, (∀ j, j < k → l.getD j der0 = l'.getD j der0) → lnR n rows l k = lnR n rows l' k
  | 0, _ => rfl
  | k + 1, h => by rw [lnR, lnR, lnR_congr fun j hj => h j (by omega), h k (by omega)]
theorem getD_app {α : Type} {l m : List α} {k : Nat} (d : α) (h : k < l.length) : (l ++ m).getD k d = l.getD k d := by
  rw [List.getD_eq_getElem?_getD, List.getElem?_append_left h, ← List.getD_eq_getElem?_getD]
theorem getD_at {α : Type} {l : List α} {a d : α} : (l ++ [a]).getD l.length d = a := by
  rw [List.getD_eq_getElem?_getD, List.getElem?_append_right (Nat.le_refl _), Nat.sub_self]; rfl
theorem getD_setB {α : Type} {l : List α} {k : Nat} {a d : α} (h : k < l.length) : (l.set k a).getD k d = a := by
  rw [List.getD_eq_getElem?_getD, List.getElem?_set_self h]; rfl
theorem getD_set_ne {α : Type} {l : List α} {k j : Nat} {a d : α} (h : k ≠ j) : (l.set k a).getD j d = l.getD j d := by
  rw [List.getD_eq_getElem?_getD, List.getElem?_set_ne h, ← List.getD_eq_getElem?_getD]
theorem lnR_snoc {n : Nat} {rows a : List Row} {l : List Der} {d : Der} (h : lnR n rows l l.length = some a) (hd : dvB n a d) : lnR n rows (l ++ [d]) (l ++ [d]).length = some (a ++ [dvR n a d]) := by
  rw [List.length_append, List.length_singleton, lnR, lnR_congr (l' := l) fun j hj => getD_app _ hj, h]
  dsimp only
  rw [getD_at, if_pos hd]

/-- the lines of a node so far; all else as it was -/
structure AdOk (n i : Nat) (b b' : Br) : Prop where
  len : b'.nodes.length = b.nodes.length
  oth : ∀ j, j ≠ i → b'.nodes.getD j nod0 = b.nodes.getD j nod0
  lft : b'.left = b.left
  pt : b'.point = b.point
  var : (b'.nodes.getD i nod0).var = (b.nodes.getD i nod0).var
  lin : b'.lines + (b.nodes.getD i nod0).lines.length = b.lines + (b'.nodes.getD i nod0).lines.length
  lmx : b.lines ≤ 400 → b'.lines ≤ 400
  rows : ∃ m, b'.rows = b.rows ++ m
  rdy : rdyR n b.rows → rdyR n b'.rows
theorem AdOk.refl (n i : Nat) (b : Br) : AdOk n i b b := ⟨rfl, fun _ _ => rfl, rfl, rfl, rfl, rfl, fun h => h, ⟨[], by simp⟩, fun h => h⟩
theorem AdOk.trans {n i : Nat} {a b c : Br} (h : AdOk n i a b) (k : AdOk n i b c) : AdOk n i a c := by
  obtain ⟨m1, e1⟩ := h.rows
  obtain ⟨m2, e2⟩ := k.rows
  exact ⟨k.len.trans h.len, fun j hj => (k.oth j hj).trans (h.oth j hj), k.lft.trans h.lft, k.pt.trans h.pt, k.var.trans h.var, by have := h.lin; have := k.lin; omega, fun hh => k.lmx (h.lmx hh), ⟨m1 ++ m2, by rw [e2, e1, List.append_assoc]⟩, fun hh => k.rdy (h.rdy hh)⟩
theorem AdOk.give (n i : Nat) (b : Br) : AdOk n i b b.give := ⟨rfl, fun _ _ => rfl, rfl, rfl, rfl, rfl, fun h => h, ⟨[], by simp [Br.give]⟩, fun h => h⟩
theorem addB_ok {n i : Nat} {b : Br} {d : Der} (hi : i < b.nodes.length) : AdOk n i b (addB n i b d).1 ∧ (((addB n i b d).2 = false ∧ (addB n i b d).1.gave = true) ∨
    ((addB n i b d).2 = true ∧ (addB n i b d).1.gave = b.gave ∧ dvB n b.rows d ∧ (addB n i b d).1.rows = b.rows ++ [dvR n b.rows d] ∧ ((addB n i b d).1.nodes.getD i nod0).lines = (b.nodes.getD i nod0).lines ++ [d])) := by
  unfold addB
  split
  · rename_i hc
    refine ⟨⟨by simp, fun j hj => getD_set_ne fun e => hj e.symm, rfl, rfl, by dsimp only; rw [getD_setB hi], ?_, fun h => by dsimp only; omega, ⟨[dvR n b.rows d], rfl⟩, fun h => rdy_app h (dvR_rdy hc.1)⟩, .inr ⟨rfl, rfl, hc.1, rfl, by dsimp only; rw [getD_setB hi]⟩⟩
    dsimp only
    rw [getD_setB hi]
    simp only [List.length_append, List.length_cons, List.length_nil]
    omega
  · exact ⟨AdOk.give n i b, .inl ⟨rfl, rfl⟩⟩
theorem shK_ok {n : Nat} {b : Br} (hi : 0 < b.nodes.length) (h0 : (b.nodes.getD 0 nod0).lines = []) (hg : b.gave = false) : ∀ k, k ≤ b.rows.length → AdOk n 0 b (shK n b k).1 ∧ (((shK n b k).2 = false ∧ (shK n b k).1.gave = true) ∨
    ((shK n b k).2 = true ∧ (shK n b k).1.gave = false ∧ lnR n b.rows ((shK n b k).1.nodes.getD 0 nod0).lines ((shK n b k).1.nodes.getD 0 nod0).lines.length = some (shK n b k).1.rows))
  | 0, _ => ⟨AdOk.refl n 0 b, .inr ⟨rfl, hg, by rw [shK, h0]; rfl⟩⟩
  | k + 1, hk => by
    obtain ⟨h1, h2⟩ := shK_ok (n := n) hi h0 hg k (by omega)
    rw [shK]
    split
    · exact ⟨h1, h2⟩
    · rename_i hs
      have h2 := h2.resolve_left fun h => hs h.1
      split
      · rename_i hc
        obtain ⟨k1, k2⟩ := addB_ok (n := n) (i := 0) (b := (shK n b k).1) (d := ⟨[(k : Int)], [1], divR (b.rows.getD k row0)⟩) (by rw [h1.len]; exact hi)
        refine ⟨h1.trans k1, ?_⟩
        rcases k2 with k2 | ⟨k2, k3, k4, k5, k6⟩
        · exact .inl k2
        · refine .inr ⟨k2, k3.trans h2.2.1, ?_⟩
          rw [k6, k5]
          exact lnR_snoc h2.2.2 k4
      · exact ⟨h1, .inr h2⟩

theorem parM_diff {A B : List Nod} {c : Int} {lo : Nat} : ∀ {hi : Nat}, lo ≤ hi → (∀ j, lo ≤ j → j < hi → A.getD j nod0 = B.getD j nod0) → parM A c hi - parM A c lo = parM B c hi - parM B c lo
  | 0, h, _ => by rw [Nat.le_zero.1 h]; omega
  | k + 1, h, hj => by
    by_cases e : lo = k + 1
    · subst e; omega
    · have ih := parM_diff (A := A) (B := B) (c := c) (lo := lo) (hi := k) (by omega) fun j h1 h2 => hj j h1 (by omega)
      rw [parM, parM, hj k (by omega) (by omega)]
      omega
theorem linN_diff {A B : List Nod} {lo : Nat} : ∀ {hi : Nat}, lo ≤ hi → (∀ j, lo ≤ j → j < hi → A.getD j nod0 = B.getD j nod0) → linN A hi + linN B lo = linN B hi + linN A lo
  | 0, h, _ => by rw [Nat.le_zero.1 h]; omega
  | k + 1, h, hj => by
    by_cases e : lo = k + 1
    · subst e; omega
    · have ih := linN_diff (A := A) (B := B) (lo := lo) (hi := k) (by omega) fun j h1 h2 => hj j h1 (by omega)
      rw [linN, linN, hj k (by omega) (by omega)]
      omega
theorem nodV_mono {n a b i : Nat} {x : Nod} (h : nodV n a i x) (hab : a ≤ b) : nodV n b i x := by
  unfold nodV at *
  rcases h with h | ⟨h1, h2, h3, h4⟩
  · exact .inl h
  · exact .inr ⟨h1, h2, by omega, by omega⟩

/-- what a branch leaves: i is its node, new; R: the rows at its start -/
structure BrOk (n i : Nat) (b b' : Br) : Prop where
  pre : ∀ j, j < i → b'.nodes.getD j nod0 = b.nodes.getD j nod0
  len : b.nodes.length ≤ b'.nodes.length
  cnt : b'.nodes.length + b'.left = b.nodes.length + b.left
  lin : b'.lines + linN b'.nodes i = b.lines + linN b'.nodes b'.nodes.length
  lmx : b'.lines ≤ 400
  rows : ∃ m, b'.rows = b.rows ++ m
  rdy : rdyR n b'.rows
  vld : ∀ j, i ≤ j → j < b'.nodes.length → b'.point = none → b'.gave = false → nodV n b'.nodes.length j (b'.nodes.getD j nod0)
  par : b'.point = none → b'.gave = false → ∀ c : Int, parM b'.nodes c b'.nodes.length - parM b'.nodes c i = if (i : Int) < c ∧ c < b'.nodes.length then 1 else 0
  clo : b'.point = none → b'.gave = false → ∀ (N : List Nod), (∀ j, i ≤ j → j < b'.nodes.length → N.getD j nod0 = b'.nodes.getD j nod0) → ∀ f, b'.nodes.length - i ≤ f → cloB n N f i b.rows = true
  pt : ∀ x, b'.point = some x → x.length = n ∧ pntB x ∧ ∀ l, l < b.rows.length → 0 ≤ valR (b.rows.getD l row0) x
/-- the state at a branch's start -/
structure BrIn (n i : Nat) (b : Br) : Prop where
  len : b.nodes.length = i + 1
  new : b.nodes.getD i nod0 = nodN
  pt : b.point = none
  gv : b.gave = false
  rdy : rdyR n b.rows
  lmx : b.lines ≤ 400
  n96 : n ≤ 96
theorem linN_one (A : List Nod) (i : Nat) : linN A (i + 1) = linN A i + (A.getD i nod0).lines.length := by rw [linN]
theorem parM_one (A : List Nod) (c : Int) (i : Nat) : parM A c (i + 1) - parM A c i = if (A.getD i nod0).var = -1 then 0 else (if (A.getD i nod0).left = c then 1 else 0) + (if (A.getD i nod0).right = c then 1 else 0) := by rw [parM]; omega
section
variable {n i : Nat} {b b' : Br}
/-- a node that is given up, or that has a contradiction -/
theorem BrOk.leaf (h : BrIn n i b) (ha : AdOk n i b b') (hc : b'.gave = false → lnR n b.rows (b'.nodes.getD i nod0).lines (b'.nodes.getD i nod0).lines.length = some b'.rows ∧ someC b'.rows) : BrOk n i b b' := by
  have hl : b'.nodes.length = i + 1 := ha.len.trans h.len
  have hv : (b'.nodes.getD i nod0).var = -1 := by rw [ha.var, h.new]; rfl
  have h0 : (b.nodes.getD i nod0).lines.length = 0 := by rw [h.new]; rfl
  refine ⟨fun j hj => ha.oth j (by omega), by have := ha.len; omega, by have := ha.len; have := ha.lft; omega, ?_, ha.lmx h.lmx, ha.rows, ha.rdy h.rdy, ?_, ?_, ?_, ?_⟩
  · rw [hl, linN_one]
    have := ha.lin
    omega
  · intro j h1 h2 _ _
    obtain rfl : j = i := by omega
    exact .inl hv
  · intro _ _ c
    rw [hl, parM_one, if_pos hv, if_neg (by omega)]
  · intro _ hg N hN f hf
    obtain ⟨e, hs⟩ := hc hg
    obtain ⟨f, rfl⟩ : ∃ f', f = f' + 1 := ⟨f - 1, by omega⟩
    have hNi := hN i (Nat.le_refl _) (by omega)
    rw [cloB, hNi, e]
    dsimp only
    rw [if_pos hv]
    exact decide_eq_true hs
  · intro x hx
    rw [ha.pt, h.pt] at hx
    cases hx
theorem AdOk.giv (h : AdOk n i b b') : AdOk n i b b'.give := h.trans (AdOk.give n i b')
theorem BrOk.given (h : BrIn n i b) (ha : AdOk n i b b') (hg : b'.gave = true) : BrOk n i b b' := BrOk.leaf h ha fun h0 => by rw [hg] at h0; cases h0
end
end Go.Proofs.Ytgjmbmdaaahmkaa
