
/-
  The solver plainly: each branch leaves a correct part of a refutation, or a point, or it gives up.
-/
import Derived.Test.YtgjmbmdaaahmkaaFvE
set_option linter.unusedVariables false
set_option linter.unusedSimpArgs false
namespace Go.Proofs.Ytgjmbmdaaahmkaa
set_option maxRecDepth 100000
set_option maxHeartbeats 8000000

section
variable {n i : Nat} {b b' : Br}
/-- a node that is split, behind its left part -/
structure HfOk (n i : Nat) (v a : Int) (b b1 c : Br) : Prop where
  pre : ∀ j, j < i → c.nodes.getD j nod0 = b.nodes.getD j nod0
  len : i + 2 ≤ c.nodes.length
  cnt : c.nodes.length + c.left = b.nodes.length + b.left
  lin : c.lines + linN c.nodes i = b.lines + linN c.nodes c.nodes.length
  lmx : c.lines ≤ 400
  rows : c.rows = b1.rows
  nod : c.nodes.getD i nod0 = { b1.nodes.getD i nod0 with var := v, at_ := a, left := ((i + 1 : Nat) : Int) }
  vld : ∀ j, i + 1 ≤ j → j < c.nodes.length → c.point = none → c.gave = false → nodV n c.nodes.length j (c.nodes.getD j nod0)
  par : c.point = none → c.gave = false → ∀ x : Int, parM c.nodes x c.nodes.length - parM c.nodes x (i + 1) = if ((i + 1 : Nat) : Int) < x ∧ x < c.nodes.length then 1 else 0
  clo : c.point = none → c.gave = false → ∀ (N : List Nod), (∀ j, i + 1 ≤ j → j < c.nodes.length → N.getD j nod0 = c.nodes.getD j nod0) → ∀ f, c.nodes.length - (i + 1) ≤ f → cloB n N f (i + 1) (b1.rows ++ [splL n v a]) = true
  pt : ∀ x, c.point = some x → x.length = n ∧ pntB x ∧ ∀ l, l < b1.rows.length → 0 ≤ valR (b1.rows.getD l row0) x
theorem lin_new (h : BrIn n i b) (ha : AdOk n i b b') : b'.lines = b.lines + (b'.nodes.getD i nod0).lines.length := by
  have := ha.lin
  have h0 : (b.nodes.getD i nod0).lines.length = 0 := by rw [h.new]; rfl
  omega
theorem half_ok {v a : Int} {c0 : Br} (h : BrIn n i b) (ha : AdOk n i b b') (hv : 0 ≤ v ∧ v < n) (h0 : 0 ≤ a ∧ a ≤ 1048576) (hl : b'.left ≠ 0)
    (hc : BrOk n (i + 1) ((setLb i v a b'.nodes.length (openB b')).put b'.rows (splL n v a)) c0) : HfOk n i v a b b' (c0.cut b'.rows.length) := by
  have hb : b'.nodes.length = i + 1 := ha.len.trans h.len
  have e0 : ((setLb i v a b'.nodes.length (openB b')).put b'.rows (splL n v a)).nodes.length = i + 2 := by
    unfold setLb openB Br.put
    simp only [List.length_set, List.length_append, List.length_singleton]
    omega
  have e1 : ∀ j, j < i → ((setLb i v a b'.nodes.length (openB b')).put b'.rows (splL n v a)).nodes.getD j nod0 = b'.nodes.getD j nod0 := fun j hj => by
    unfold setLb openB Br.put
    dsimp only
    rw [getD_set_ne (by omega), getD_app nod0 (by omega)]
  have e2 : ((setLb i v a b'.nodes.length (openB b')).put b'.rows (splL n v a)).nodes.getD i nod0 = { b'.nodes.getD i nod0 with var := v, at_ := a, left := ((i + 1 : Nat) : Int) } := by
    unfold setLb openB Br.put
    dsimp only
    rw [getD_setB (by rw [List.length_append]; omega), getD_app nod0 (by omega), hb]
  have e3 : ((setLb i v a b'.nodes.length (openB b')).put b'.rows (splL n v a)).left = b'.left - 1 := rfl
  have e4 : ((setLb i v a b'.nodes.length (openB b')).put b'.rows (splL n v a)).lines = b'.lines := rfl
  have e5 : ((setLb i v a b'.nodes.length (openB b')).put b'.rows (splL n v a)).rows = b'.rows ++ [splL n v a] := rfl
  generalize (setLb i v a b'.nodes.length (openB b')).put b'.rows (splL n v a) = bL at *
  have hni := hc.pre i (by omega)
  rw [e2] at hni
  obtain ⟨m, em⟩ := hc.rows
  have hlen := hc.len
  have hcnt := hc.cnt
  refine ⟨fun j hj => ?_, ?_, ?_, ?_, hc.lmx, ?_, hni, hc.vld, hc.par, fun h1 h2 N hN f hf => ?_, fun x hx => ?_⟩
  · exact (hc.pre j (by omega)).trans ((e1 j hj).trans (ha.oth j (by omega)))
  · show i + 2 ≤ c0.nodes.length
    omega
  · show c0.nodes.length + c0.left = b.nodes.length + b.left
    have := ha.lft
    have := h.len
    omega
  · show c0.lines + linN c0.nodes i = b.lines + linN c0.nodes c0.nodes.length
    have k1 := hc.lin
    have k2 := lin_new h ha
    rw [linN_one, hni] at k1
    dsimp only at k1
    omega
  · show c0.rows.take b'.rows.length = b'.rows
    rw [em, e5, List.append_assoc, List.take_left']
    rfl
  · have := hc.clo h1 h2 N hN f hf
    rw [e5] at this
    exact this
  · obtain ⟨k1, k2, k3⟩ := hc.pt x hx
    refine ⟨k1, k2, fun l hl => ?_⟩
    have := k3 l (by rw [e5, List.length_append]; omega)
    rwa [e5, getD_app row0 hl] at this
theorem half_stop {v a : Int} {c : Br} (h : BrIn n i b) (ha : AdOk n i b b') (hc : HfOk n i v a b b' c) (hs : c.point.isSome = true ∨ c.gave = true) : BrOk n i b c := by
  have hno : ¬ (c.point = none ∧ c.gave = false) := by
    rintro ⟨h1, h2⟩
    rcases hs with hs | hs
    · rw [h1] at hs; cases hs
    · rw [h2] at hs; cases hs
  obtain ⟨m, em⟩ := ha.rows
  refine ⟨hc.pre, by have := h.len; have := hc.len; omega, hc.cnt, hc.lin, hc.lmx, ⟨m, by rw [hc.rows, em]⟩, by rw [hc.rows]; exact ha.rdy h.rdy, fun _ _ _ h1 h2 => absurd ⟨h1, h2⟩ hno, fun h1 h2 => absurd ⟨h1, h2⟩ hno, fun h1 h2 => absurd ⟨h1, h2⟩ hno, fun x hx => ?_⟩
  obtain ⟨k1, k2, k3⟩ := hc.pt x hx
  refine ⟨k1, k2, fun l hl => ?_⟩
  have := k3 l (by rw [em, List.length_append]; omega)
  rwa [em, getD_app row0 hl] at this
theorem HfOk.giv {v a : Int} {b1 c : Br} (h : HfOk n i v a b b1 c) : HfOk n i v a b b1 c.give :=
  ⟨h.pre, h.len, h.cnt, h.lin, h.lmx, h.rows, h.nod, fun _ _ _ _ h2 => (by cases h2), fun _ h2 => (by cases h2), fun _ h2 => (by cases h2), h.pt⟩
theorem ifZ (p : Prop) [Decidable p] : ((if p then (1 : Int) else 0) = 1 ∧ p) ∨ ((if p then (1 : Int) else 0) = 0 ∧ ¬ p) := by
  by_cases h : p
  · exact .inl ⟨if_pos h, h⟩
  · exact .inr ⟨if_neg h, h⟩
theorem full_ok {v a : Int} {c d0 : Br} (h : BrIn n i b) (ha : AdOk n i b b') (hln : lnR n b.rows (b'.nodes.getD i nod0).lines (b'.nodes.getD i nod0).lines.length = some b'.rows) (hv : 0 ≤ v ∧ v < n) (h0 : 0 ≤ a ∧ a ≤ 1048576)
    (hc : HfOk n i v a b b' c) (hp : c.point = none) (hg : c.gave = false) (hl : c.left ≠ 0)
    (hd : BrOk n c.nodes.length ((setRb i v a c.nodes.length (openB c)).put b'.rows (splR n v (a + 1))) d0) : BrOk n i b (d0.cut b'.rows.length) := by
  have hcl := hc.len
  have e0 : ((setRb i v a c.nodes.length (openB c)).put b'.rows (splR n v (a + 1))).nodes.length = c.nodes.length + 1 := by
    unfold setRb openB Br.put
    simp only [List.length_set, List.length_append, List.length_singleton]
  have e1 : ∀ j, j ≠ i → j < c.nodes.length → ((setRb i v a c.nodes.length (openB c)).put b'.rows (splR n v (a + 1))).nodes.getD j nod0 = c.nodes.getD j nod0 := fun j hj hj2 => by
    unfold setRb openB Br.put
    dsimp only
    rw [getD_set_ne (by omega), getD_app nod0 hj2]
  have e2 : ((setRb i v a c.nodes.length (openB c)).put b'.rows (splR n v (a + 1))).nodes.getD i nod0 = { b'.nodes.getD i nod0 with var := v, at_ := a, left := ((i + 1 : Nat) : Int), right := (c.nodes.length : Int) } := by
    unfold setRb openB Br.put
    dsimp only
    rw [getD_setB (by rw [List.length_append]; omega), getD_app nod0 (by omega), hc.nod]
  have e3 : ((setRb i v a c.nodes.length (openB c)).put b'.rows (splR n v (a + 1))).left = c.left - 1 := rfl
  have e4 : ((setRb i v a c.nodes.length (openB c)).put b'.rows (splR n v (a + 1))).lines = c.lines := rfl
  have e5 : ((setRb i v a c.nodes.length (openB c)).put b'.rows (splR n v (a + 1))).rows = b'.rows ++ [splR n v (a + 1)] := rfl
  generalize (setRb i v a c.nodes.length (openB c)).put b'.rows (splR n v (a + 1)) = bR at *
  have hni := hd.pre i (by omega)
  rw [e2] at hni
  have hoj : ∀ j, j ≠ i → j < c.nodes.length → d0.nodes.getD j nod0 = c.nodes.getD j nod0 := fun j h1 h2 => (hd.pre j h2).trans (e1 j h1 h2)
  obtain ⟨m, em⟩ := hd.rows
  obtain ⟨m1, em1⟩ := ha.rows
  have hlen := hd.len
  have hcnt := hd.cnt
  have htake : d0.rows.take b'.rows.length = b'.rows := by
    rw [em, e5, List.append_assoc, List.take_left']
    rfl
  have hlo : i + 1 ≤ c.nodes.length := by omega
  refine ⟨fun j hj => ?_, ?_, ?_, ?_, hd.lmx, ⟨m1, by show d0.rows.take b'.rows.length = _; rw [htake, em1]⟩, ?_, fun j h1 h2 h3 h4 => ?_, fun h1 h2 x => ?_, fun h1 h2 N hN f hf => ?_, fun x hx => ?_⟩
  · exact (hoj j (by omega) (by omega)).trans (hc.pre j hj)
  · show b.nodes.length ≤ d0.nodes.length
    have := h.len
    omega
  · show d0.nodes.length + d0.left = b.nodes.length + b.left
    have := hc.cnt
    omega
  · show d0.lines + linN d0.nodes i = b.lines + linN d0.nodes d0.nodes.length
    have k1 := hd.lin
    have k2 := hc.lin
    have k3 := linN_diff (A := d0.nodes) (B := c.nodes) hlo fun j h1 h2 => hoj j (by omega) h2
    rw [linN_one, linN_one, hni, hc.nod] at k3
    dsimp only at k3
    omega
  · show rdyR n (d0.rows.take b'.rows.length)
    rw [htake]; exact ha.rdy h.rdy
  · show nodV n d0.nodes.length j (d0.nodes.getD j nod0)
    by_cases hji : j = i
    · subst hji
      rw [hni]
      refine .inr ⟨hv, h0, ?_, ?_⟩
      · dsimp only; omega
      · dsimp only; omega
    · by_cases hjc : j < c.nodes.length
      · rw [hoj j hji hjc]
        exact nodV_mono (hc.vld j (by omega) hjc hp hg) (by omega)
      · exact hd.vld j (by omega) h2 h3 h4
  · show parM d0.nodes x d0.nodes.length - parM d0.nodes x i = if (i : Int) < x ∧ x < d0.nodes.length then 1 else 0
    have k1 := hd.par h1 h2 x
    have k2 := hc.par hp hg x
    have k3 := parM_diff (A := d0.nodes) (B := c.nodes) (c := x) hlo fun j h1 h2 => hoj j (by omega) h2
    have k4 := parM_one d0.nodes x i
    rw [hni, if_neg (by dsimp only; omega)] at k4
    dsimp only at k4
    have f1 := ifZ (((i + 1 : Nat) : Int) = x)
    have f2 := ifZ ((c.nodes.length : Int) = x)
    have f3 := ifZ ((i : Int) < x ∧ x < d0.nodes.length)
    have f4 := ifZ ((c.nodes.length : Int) < x ∧ x < d0.nodes.length)
    have f5 := ifZ (((i + 1 : Nat) : Int) < x ∧ x < c.nodes.length)
    omega
  · have hNi := hN i (Nat.le_refl _) (by show i < d0.nodes.length; omega)
    obtain ⟨f, rfl⟩ : ∃ f', f = f' + 1 := ⟨f - 1, by have : d0.nodes.length - i ≤ f := hf; omega⟩
    have hf : d0.nodes.length - i ≤ f + 1 := hf
    have hNi : N.getD i nod0 = d0.nodes.getD i nod0 := hNi
    have a1 := hc.clo hp hg N (fun j g1 g2 => (hN j (by omega) (by show j < d0.nodes.length; omega)).trans (hoj j (by omega) g2)) f (by omega)
    have a2 := hd.clo h1 h2 N (fun j g1 g2 => hN j (by omega) g2) f (by omega)
    rw [e5] at a2
    rw [cloB, hNi, hni]
    dsimp only
    rw [hln]
    dsimp only
    rw [if_neg (by omega), Int.toNat_natCast, Int.toNat_natCast, a1, a2]
    rfl
  · obtain ⟨k1, k2, k3⟩ := hd.pt x hx
    refine ⟨k1, k2, fun l hl => ?_⟩
    have hlt : l < b'.rows.length := by rw [em1, List.length_append]; omega
    have := k3 l (by rw [e5, List.length_append]; omega)
    rwa [e5, getD_app row0 hlt, em1, getD_app row0 hl] at this
/-- a point is found -/
theorem BrOk.pnt {x : List Int} (h : BrIn n i b) (ha : AdOk n i b b') (h1 : x.length = n) (h2 : pntB x) (h3 : ∀ l, l < b'.rows.length → 0 ≤ valR (b'.rows.getD l row0) x) : BrOk n i b { b' with point := some x } := by
  have hl : b'.nodes.length = i + 1 := ha.len.trans h.len
  obtain ⟨m, em⟩ := ha.rows
  refine ⟨fun j hj => ha.oth j (by omega), by have := ha.len; show b.nodes.length ≤ b'.nodes.length; omega, by have := ha.len; have := ha.lft; show b'.nodes.length + b'.left = _; omega, ?_, ha.lmx h.lmx, ⟨m, em⟩, ha.rdy h.rdy, fun _ _ _ e => (by cases e), fun e => (by cases e), fun e => (by cases e), fun y hy => ?_⟩
  · show b'.lines + linN b'.nodes i = b.lines + linN b'.nodes b'.nodes.length
    rw [hl, linN_one]
    have := lin_new h ha
    omega
  · cases hy
    refine ⟨h1, h2, fun l hl => ?_⟩
    have := h3 l (by rw [em, List.length_append]; omega)
    rwa [em, getD_app row0 hl] at this
end
theorem someC_last {l : List Row} {r : Row} (h : conB r) : someC (l ++ [r]) := ⟨l.length, by simp, by rw [getD_at]; exact h⟩
theorem brB_ok {n : Nat} : ∀ (k : Nat) {i : Nat} {b : Br}, BrIn n i b → BrOk n i b (brB n k b i)
  | 0, i, b, h => BrOk.given h (AdOk.give n i b) rfl
  | k + 1, i, b0, h => by
    have hs : AdOk n i b0 (if i = 0 then shK n b0 b0.rows.length else (b0, true)).1 ∧ (((if i = 0 then shK n b0 b0.rows.length else (b0, true)).2 = false ∧ (if i = 0 then shK n b0 b0.rows.length else (b0, true)).1.gave = true) ∨
        ((if i = 0 then shK n b0 b0.rows.length else (b0, true)).2 = true ∧ (if i = 0 then shK n b0 b0.rows.length else (b0, true)).1.gave = false ∧
          lnR n b0.rows ((if i = 0 then shK n b0 b0.rows.length else (b0, true)).1.nodes.getD i nod0).lines ((if i = 0 then shK n b0 b0.rows.length else (b0, true)).1.nodes.getD i nod0).lines.length = some (if i = 0 then shK n b0 b0.rows.length else (b0, true)).1.rows)) := by
      by_cases e : i = 0
      · subst e
        rw [if_pos rfl]
        exact shK_ok (by have := h.len; omega) (by rw [h.new]; rfl) h.gv _ (Nat.le_refl _)
      · rw [if_neg e]
        refine ⟨AdOk.refl n i b0, .inr ⟨rfl, h.gv, ?_⟩⟩
        dsimp only
        rw [h.new]
        rfl
    rw [brB]
    dsimp only
    generalize (if i = 0 then shK n b0 b0.rows.length else (b0, true)) = s at hs ⊢
    obtain ⟨b, ok⟩ := s
    dsimp only at hs ⊢
    obtain ⟨ha, hs⟩ := hs
    rcases hs with ⟨rfl, hg⟩ | ⟨rfl, hg, hln⟩
    · rw [if_pos rfl]
      exact BrOk.given h ha hg
    rw [if_neg (by simp)]
    have hrdy := ha.rdy h.rdy
    have hb : b.nodes.length = i + 1 := ha.len.trans h.len
    by_cases hsc : someC b.rows
    · rw [if_pos hsc]
      exact BrOk.leaf h ha fun _ => ⟨hln, hsc⟩
    rw [if_neg hsc]
    by_cases hnb : newB b.rows
    case neg =>
      rw [if_pos hnb]
      exact BrOk.given h ha.giv rfl
    rw [if_neg (fun hh => hh hnb)]
    have hw : ∀ j, j < b.rows.length → (b.rows.getD j row0).coef.length = n := fun j hj => (hrdy j hj).1
    have T0 := new_ok hw hnb
    cases hsl : slT b.rows.length n 5000 (newT n b.rows) with
    | none => exact BrOk.given h ha.giv rfl
    | some z =>
      obtain ⟨t, bad⟩ := z
      dsimp only
      obtain ⟨T, hbad⟩ := sl_ok 5000 T0 hsl
      by_cases hb0 : 0 ≤ bad
      · rw [if_pos hb0]
        obtain ⟨hbr, hneg, hcol⟩ : (0 ≤ bad ∧ bad < b.rows.length) ∧ cl t bad.toNat 0 < 0 ∧ ∀ j, j < n → cl t bad.toNat (j + 1) ≤ 0 := by
          rcases hbad with hbad | hbad
          · omega
          · exact hbad
        cases hfk : fkD n t bad.toNat with
        | none => exact BrOk.given h ha.giv rfl
        | some d =>
          dsimp only
          have hde : d = fkE n t bad.toNat := by
            unfold fkD at hfk
            split at hfk
            · cases hfk
            · exact (Option.some.inj hfk).symm
          subst hde
          obtain ⟨k1, k2⟩ := addB_ok (n := n) (i := i) (b := b) (d := fkE n t bad.toNat) (by omega)
          rcases k2 with k2 | ⟨_, _, k4, k5, k6⟩
          · exact BrOk.given h (ha.trans k1) k2.2
          · refine BrOk.leaf h (ha.trans k1) fun _ => ⟨?_, ?_⟩
            · rw [k6, k5]
              exact lnR_snoc hln k4
            · rw [k5]
              exact someC_last (fkE_con T hw hrdy (by omega) hcol hneg k4)
      · rw [if_neg hb0]
        have h0 : ∀ j, j < b.rows.length → 0 ≤ cl t j 0 := by
          rcases hbad with hbad | hbad
          · exact hbad.2
          · omega
        have hbas : ∀ j, j < b.rows.length → 0 ≤ t.bas.getD j 0 := fun j hj => (bas_rng T _ (List.mem_append_left _ (memD (l := t.bas) 0 (by rw [T.bl]; exact hj)))).1
        have hfr := frK_rng (n := n) hbas T.dp.1 h0 b.rows.length (Nat.le_refl _)
        by_cases hv : (frK n t b.rows.length).1 < 0
        · rw [if_pos hv]
          by_cases hpos : pntB (ptK n t b.rows.length)
          · rw [if_pos hpos]
            exact BrOk.pnt h ha (ptK_len n t _) hpos (pt_sat T hw h0 fun j hj => frK_none hbas _ (Nat.le_refl _) hv j hj)
          · rw [if_neg hpos]
            exact BrOk.given h ha.giv rfl
        rw [if_neg hv]
        generalize (frK n t b.rows.length).1 = v at *
        generalize (frK n t b.rows.length).2 = a at *
        by_cases hal : 1048576 < a
        · rw [if_pos hal]
          exact BrOk.given h ha.giv rfl
        rw [if_neg hal]
        by_cases hl : b.left = 0
        · rw [if_pos hl]
          exact BrOk.given h ha.giv rfl
        rw [if_neg hl]
        have hvr : 0 ≤ v ∧ v < n := by omega
        have har : 0 ≤ a ∧ a ≤ 1048576 := by omega
        have hL : BrIn n (i + 1) ((setLb i v a b.nodes.length (openB b)).put b.rows (splL n v a)) := by
          refine ⟨?_, ?_, ha.pt.trans h.pt, hg, rdy_app hrdy (spl_rdy (.inr rfl) (by unfold numB; omega)), ha.lmx h.lmx, h.n96⟩
          · unfold setLb openB Br.put
            simp only [List.length_set, List.length_append, List.length_singleton]
            omega
          · unfold setLb openB Br.put
            dsimp only
            rw [getD_set_ne (by omega), ← hb, getD_at]
        have hH := half_ok h ha hvr har hl (brB_ok k hL)
        rw [hb] at hH ⊢
        generalize (brB n k ((setLb i v a ((i + 1 : Nat) : Int) (openB b)).put b.rows (splL n v a)) (i + 1)).cut b.rows.length = c at hH ⊢
        by_cases hst : c.point.isSome = true ∨ c.gave = true
        · rw [if_pos hst]
          exact half_stop h ha hH hst
        rw [if_neg hst]
        by_cases hcl : c.left = 0
        · rw [if_pos hcl]
          exact half_stop h ha hH.giv (.inr rfl)
        rw [if_neg hcl]
        have hcp : c.point = none := by
          cases hp : c.point with
          | none => rfl
          | some x => exact absurd (.inl (by rw [hp]; rfl)) hst
        have hcg : c.gave = false := by
          cases hp : c.gave with
          | false => rfl
          | true => exact absurd (.inr hp) hst
        have hR : BrIn n c.nodes.length ((setRb i v a c.nodes.length (openB c)).put b.rows (splR n v (a + 1))) := by
          refine ⟨?_, ?_, hcp, hcg, rdy_app hrdy (spl_rdy (.inl rfl) (by unfold numB; omega)), hH.lmx, h.n96⟩
          · unfold setRb openB Br.put
            simp only [List.length_set, List.length_append, List.length_singleton]
          · have := hH.len
            unfold setRb openB Br.put
            dsimp only
            rw [getD_set_ne (by omega), getD_at]
        have e : c.rows = b.rows := hH.rows
        exact full_ok h ha hln hvr har hH hcp hcg hcl (brB_ok k hR)

/-! ### the solver -/
theorem solB_ok {s : LSys} (h : sysE s = 0) {nodes : Int} (hn : 0 < nodes) : BrOk s.vars.toNat 0 ⟨s.rows, [nodN], 0, (min nodes 400 - 1).toNat, none, false⟩ (solB s nodes) := by
  have := (sysE_ok h).1
  exact brB_ok 401 ⟨rfl, rfl, rfl, rfl, sys_rdy h, Nat.zero_le _, by omega⟩
theorem sol_point {s : LSys} (h : sysE s = 0) {nodes : Int} (hn : 0 < nodes) {x : List Int} (hx : (solB s nodes).point = some x) : satB s x := by
  have hB := solB_ok h hn
  obtain ⟨h1, h2, h3⟩ := hB.pt x hx
  have := (sysE_ok h).1
  exact ⟨h, by omega, h2, h3⟩
theorem sol_refute {s : LSys} (h : sysE s = 0) {nodes : Int} (hn : 0 < nodes) (hp : (solB s nodes).point = none) (hg : (solB s nodes).gave = false) : refB s (solB s nodes).nodes := by
  have hB := solB_ok h hn
  generalize solB s nodes = b at hB hp hg
  have hl := hB.len
  have hc := hB.cnt
  simp only [List.length_singleton] at hl hc
  refine ⟨h, ⟨⟨by omega, ?_⟩, fun i hi => hB.vld i (Nat.zero_le _) hi hp hg, fun i hi h0 => ?_, ?_⟩, ?_⟩
  · omega
  · have := hB.par hp hg (i : Int)
    rw [if_pos (by omega)] at this
    have e : parM b.nodes (i : Int) 0 = 0 := rfl
    omega
  · have k1 := hB.lin
    have k2 := hB.lmx
    have e : linN b.nodes 0 = 0 := rfl
    have e2 : (⟨s.rows, [nodN], 0, (min nodes 400 - 1).toNat, none, false⟩ : Br).lines = 0 := rfl
    omega
  · exact hB.clo hp hg b.nodes (fun _ _ _ => rfl) b.nodes.length (by omega)
end Go.Proofs.Ytgjmbmdaaahmkaa
