
/-
  The tableau in memory: a box, two rows, and a row of rows.
-/
import Derived.Test.YtgjmbmdaaahmkaaFxG
import Derived.Test.YtgjmbmdaaahmkaaFvF
set_option linter.unusedVariables false
set_option linter.unusedSimpArgs false
namespace Go.Proofs.Ytgjmbmdaaahmkaa
set_option maxRecDepth 100000
set_option maxHeartbeats 32000000

def tabG (n : Nat) (t : Tab) (m : Nat) (bad : Int) (p : Nat) (a : List (Nat × Nat)) : List (Nat × Blk) :=
  [(7001, .box 77 [.int .i64 n, .int .i64 t.den, .row 7002 t.bas.length 1, .row 7003 t.fre.length 1, .row 7004 m 1, .int .i64 bad]), (7002, .row 3 0 encI t.bas), (7003, .row 3 0 encI t.fre),
   (7004, .hdr 28 (fun k => [.row (lbF p a k) (n + 1) 1]) m)]
def tabN (n : Nat) (t : Tab) (m : Nat) (bad : Int) (p : Nat) (a : List (Nat × Nat)) (E : List (Nat × Blk)) (c : Nat → List Int) : Mem := overM (tabG n t m bad p a ++ E) (rowsN 3 (sgF p m a) c)
def lm4 : LMap := [(7001, .old 7001), (7002, .old 7002), (7003, .old 7003), (7004, .old 7004)]
def lowL (L : List (Nat × Blk)) : Bool := L.all fun q => Nat.blt q.1 7005
def lowM (lm : LMap) : Bool := lm.all fun q => Nat.blt q.1 7005 && (match q.2 with | .old o => Nat.blt o 7005 | .nil _ => true)
def noH : List (Nat × Blk) → Prop
  | [] => True
  | (_, .hdr _ _ _) :: _ => False
  | _ :: r => noH r
theorem noH_mem {E : List (Nat × Blk)} : noH E → ∀ ℓ t g m', (ℓ, Blk.hdr t g m') ∈ E → False := by
  induction E with
  | nil => intro _ _ _ _ _ h; cases h
  | cons x r ih =>
    obtain ⟨k, B⟩ := x
    intro h ℓ t g m' hm
    rcases List.mem_cons.1 hm with e | h2
    · injection e with e1 e2
      subst e2
      exact h
    · cases B <;> first | exact h.elim | exact ih h ℓ t g m' h2
theorem lowM_old {lm : LMap} (h : lowM lm = true) {y o : Nat} (hy : lmFind lm y = some (.old o)) : o < 7005 := by
  have := List.all_eq_true.1 h _ (lmFind_mem hy)
  rw [Bool.and_eq_true] at this
  have := this.2
  simp [Nat.blt] at this
  omega
theorem lowM_key {lm : LMap} (h : lowM lm = true) {x : Nat} (hx : 7005 ≤ x) : lmFind lm x = none := by
  refine lm_far (p := 7005) ?_ hx
  rw [List.all_eq_true]
  intro q hq
  have := List.all_eq_true.1 h q hq
  rw [Bool.and_eq_true] at this
  exact this.1
/-- labels in focus, and where the others begin -/
def focB (p m : Nat) (a : List (Nat × Nat)) : Prop := wfA p m a ∧ 9000 ≤ p ∧ ∀ q ∈ a, 8000 ≤ q.1
theorem foc0 {p m : Nat} (h : 9000 ≤ p) : focB p m [] := ⟨trivial, h, fun q hq => by cases hq⟩
theorem foc1 {p m r : Nat} (h : 9000 ≤ p) (hr : r < m) : focB p m [(8802, r)] := by
  refine ⟨⟨by omega, hr, (fun q hq => by cases hq), trivial⟩, h, fun q hq => ?_⟩
  rcases List.mem_cons.1 hq with rfl | hq
  · exact (by decide : 8000 ≤ 8802)
  · cases hq
theorem foc2 {p m r i : Nat} (h : 9000 ≤ p) (hr : r < m) (hi : i < m) (hir : i ≠ r) : focB p m [(8802, r), (8801, i)] := by
  refine ⟨⟨by omega, hr, fun q hq => ?_, by omega, hi, (fun q hq => by cases hq), trivial⟩, h, fun q hq => ?_⟩
  · rcases List.mem_cons.1 hq with rfl | hq
    · exact ⟨(by decide : 8801 ≠ 8802), hir⟩
    · cases hq
  · rcases List.mem_cons.1 hq with rfl | hq
    · exact (by decide : 8000 ≤ 8802)
    · rcases List.mem_cons.1 hq with rfl | hq
      · exact (by decide : 8000 ≤ 8801)
      · cases hq
theorem focB.big {p m : Nat} {a : List (Nat × Nat)} (h : focB p m a) (k : Nat) : 8000 ≤ lbF p a k := by
  rcases lbF_in (k := k) h.1 with h1 | ⟨q, h1, h2, _⟩
  · have := h.2.1; omega
  · rw [← h2]; exact h.2.2 q h1
theorem focB.key {p m : Nat} {a : List (Nat × Nat)} (h : focB p m a) {x k : Nat} (hx : sgF p m a x = some k) : 8000 ≤ x := by
  rcases sgF_key hx with h1 | ⟨q, h1, h2⟩
  · have := h.2.1; omega
  · rw [← h2]; exact h.2.2 q h1
theorem lowL_far {L : List (Nat × Blk)} (h : lowL L = true) {x : Nat} (hx : 7005 ≤ x) : Mem.ofL L x = none := ofL_far h hx
theorem tabG_low {n : Nat} {t : Tab} {m : Nat} {bad : Int} {p : Nat} {a : List (Nat × Nat)} {E : List (Nat × Blk)} (hE : lowL E = true) : lowL (tabG n t m bad p a ++ E) = true := by
  unfold lowL at *
  rw [List.all_append, hE]
  rfl
theorem tabN_row {n : Nat} {t : Tab} {m : Nat} {bad : Int} {p : Nat} {a : List (Nat × Nat)} {E : List (Nat × Blk)} {c : Nat → List Int} (hE : lowL E = true) (ha : focB p m a) {k : Nat} (hk : k < m) :
    tabN n t m bad p a E c (lbF p a k) = some (.row 3 0 encI (c k)) := by
  unfold tabN overM
  rw [lowL_far (tabG_low hE) (by have := ha.big k; omega)]
  dsimp only
  unfold rowsN
  rw [sgF_lb ha.1 hk]
/-- told anew: the tableau with other rows in focus, other rows, other numbers -/
theorem tab_retell {M : Mem} {n m : Nat} {t : Tab} {bad : Int} {p : Nat} {a : List (Nat × Nat)} {E : List (Nat × Blk)} {c : Nat → List Int} (lmE : LMap) (lab : Nat → Nat) (hw : focB p m a) (hE : lowL E = true) (hlE : lowM lmE = true) (hEh : noH E)
    (hs : (keysB (lm4 ++ lmE) (tabG n t m bad p a ++ E) && oldsL (tabG n t m bad p a ++ E) (lm4 ++ lmE)) = true) (hm : memH (lm4 ++ lmE) 400 M (tabG n t m bad p a ++ E))
    (hg : ∃ g, M 7004 = some (.hdr 28 g m) ∧ ∀ k, k < m → g k = [.row (lab k) (n + 1) 1]) (hrow : ∀ k, k < m → M (lab k) = some (.row 3 0 encI (c k)))
    (hlab : ∀ k k', k < m → k' < m → lab k = lab k' → k = k') (hfar : ∀ k, k < m → ∀ y, lmFind (lm4 ++ lmE) y ≠ some (.old (lab k))) :
    Retell (famF (lm4 ++ lmE) fun x => (sgF p m a x).map lab) M (tabN n t m bad p a E c) := by
  have hlow : lowM (lm4 ++ lmE) = true := by
    unfold lowM at *
    rw [List.all_append, hlE]
    rfl
  refine retell_mat (lm4 ++ lmE) (tabG n t m bad p a ++ E) 400 7004 28 3 (n + 1) m c (sgF p m a) lab (lbF p a) hs hm (fun ℓ t0 g m' hmem => ?_) rfl hg hrow (fun x k hx => ?_) (fun x y k hx hy => ?_) (fun k hk => sgF_lb hw.1 hk) hlab (fun k hk y hy => absurd hy (hfar k hk y))
  · rcases List.mem_append.1 hmem with h | h
    · unfold tabG at h
      simp only [List.mem_cons, Prod.mk.injEq, List.not_mem_nil, or_false] at h
      rcases h with ⟨_, h⟩ | ⟨_, h⟩ | ⟨_, h⟩ | ⟨h1, h⟩
      · cases h
      · cases h
      · cases h
      · injection h with e1 e2 e3
        subst e1; subst e2; subst e3
        exact ⟨h1, rfl, rfl, fun k _ => rfl⟩
    · exact (noH_mem hEh _ _ _ _ h).elim
  · have := hw.key hx
    exact ⟨(sgF_some hw.1 hx).1, lowM_key hlow (by omega), lowL_far (tabG_low hE) (by omega)⟩
  · rw [← (sgF_some hw.1 hx).2, (sgF_some hw.1 hy).2]
theorem tab_sub {M : Mem} {fr fr' : List AV} {D : List Nat} {n m : Nat} {t : Tab} {bad : Int} {p : Nat} {a : List (Nat × Nat)} {E : List (Nat × Blk)} {c : Nat → List Int} (lmE lmF : LMap) (lab : Nat → Nat) (hw : focB p m a) (hE : lowL E = true) (hlE : lowM lmE = true) (hEh : noH E)
    (hs : (keysB (lm4 ++ lmE) (tabG n t m bad p a ++ E) && oldsL (tabG n t m bad p a ++ E) (lm4 ++ lmE)) = true) (hm : memH (lm4 ++ lmE) 400 M (tabG n t m bad p a ++ E))
    (hg : ∃ g, M 7004 = some (.hdr 28 g m) ∧ ∀ k, k < m → g k = [.row (lab k) (n + 1) 1]) (hrow : ∀ k, k < m → M (lab k) = some (.row 3 0 encI (c k)))
    (hlab : ∀ k k', k < m → k' < m → lab k = lab k' → k = k') (hfar : ∀ k, k < m → ∀ y, lmFind (lm4 ++ lmE) y ≠ some (.old (lab k)))
    (hD : ∀ d ∈ D, lmFind (lm4 ++ lmE) d = some (.old d)) (hlF : ∀ k y, lmFind lmF k = some y → famF (lm4 ++ lmE) (fun x => (sgF p m a x).map lab) k = some y) (hf : avRs lmF 400 fr fr') : Sub D fr M fr' (tabN n t m bad p a E c) :=
  Sub.gen _ (tab_retell lmE lab hw hE hlE hEh hs hm hg hrow hlab hfar) (fun d h => famF_lm d _ (hD d h)) (TellL.by_ 400 hlF hf)
theorem tab_set {n m : Nat} {t : Tab} {bad : Int} {p : Nat} {a : List (Nat × Nat)} {E : List (Nat × Blk)} {c : Nat → List Int} (hE : lowL E = true) (ha : focB p m a) {i : Nat} (hi : i < m) (l : List Int) :
    (tabN n t m bad p a E c).set (lbF p a i) (.row 3 0 encI l) = tabN n t m bad p a E (fun k => if k = i then l else c k) := by
  funext x
  by_cases e : x = lbF p a i
  · subst e
    rw [Mem.set_eq, tabN_row hE ha hi, if_pos rfl]
  · rw [Mem.set_ne _ _ e]
    unfold tabN overM
    cases hL : Mem.ofL (tabG n t m bad p a ++ E) x with
    | some B => rfl
    | none =>
      dsimp only
      unfold rowsN
      cases hσ : sgF p m a x with
      | none => rfl
      | some k =>
        have h1 := sgF_some ha.1 hσ
        have : k ≠ i := fun h => e (by rw [← h1.2, h])
        dsimp only
        rw [if_neg this]
theorem lmFind_appL {k : Nat} {y : LM} {b : LMap} : ∀ {a : LMap}, lmFind a k = some y → lmFind (a ++ b) k = some y
  | (k1, z1) :: a, h => by
    rw [List.cons_append, lmFind]
    rw [lmFind] at h
    split
    · rename_i hb; rw [hb] at h; exact h
    · rename_i hb; rw [hb] at h; exact lmFind_appL h
theorem forceI {u : AV} {k : AV → Prop} (h : k u) : forceK u k := by rw [forceK_eq]; exact h
theorem putI {fr : List AV} {d : Option Tmp} {u : AV} {k : List AV → Prop} (h : k (setD fr d u)) : putD fr d u k := by rw [putD_eq]; exact h
/-- a number stored to a row of numbers: the step by hand -/
theorem ops_store1 {P : Program} {tt : TT} {all r : List Oper} {fr : List AV} {M : Mem} {K : List AV → Mem → Prop} {t ty : TypeId} {ps : String} {af : Array Edge} {a b : Operand} {ℓ j : Nat} {v : Int} {rt : TypeId} {l : List Int} {i : TI}
    (ha : avOf fr a = .rel ℓ j 0) (hb : avOf fr b = .int .i64 v) (ht : tt.find t = some i) (hi : i.size = 1) (hM : M ℓ = some (.row rt (0 : Int) encI l)) (hk : opsK P tt none all r fr (M.set ℓ (.row rt 0 encI (l.set j v))) K) :
    opsK P tt none all ({ dst := none, op := .store t a b, type := ty, pos := ps, after := af, guard := none } :: r) fr M K := by
  simp only [opsK]
  rw [stepK_eq]
  simp only [gv, opnds, List.map_cons, List.map_nil, ha, hb, semK, storeH, storeK, cellsA, ht, hi, leakK, hM, setD]
  exact rowSetI v rfl hk
theorem ops_storeH {P : Program} {tt : TT} {all r : List Oper} {fr : List AV} {M : Mem} {K : List AV → Mem → Prop} {t ty : TypeId} {ps : String} {af : Array Edge} {a b : Operand} {ℓ j : Nat} {x : AV} {cs : List AV} {rt : TypeId} {g : Nat → List AV} {m : Nat} {i : TI}
    (g' : Nat → List AV) (ha : avOf fr a = .rel ℓ j 0) (hb : avOf fr b = x) (hc : cellsA x = some cs) (ht : tt.find t = some i) (hM : M ℓ = some (.hdr rt g m)) (h1 : Nat.beq cs.length i.size = true) (h2 : allOne cs = true) (h3 : Nat.ble (0 + cs.length) (g j).length = true)
    (hg : (fun k => match Nat.beq k j with | true => splice (g j) 0 cs | false => g k) = g') (hk : opsK P tt none all r fr (M.set ℓ (.hdr rt g' m)) K) :
    opsK P tt none all ({ dst := none, op := .store t a b, type := ty, pos := ps, after := af, guard := none } :: r) fr M K := by
  simp only [opsK]
  rw [stepK_eq]
  simp only [gv, opnds, List.map_cons, List.map_nil, ha, hb, semK, storeH, hc, ht, hM, h1, h2, h3, setD]
  subst hg
  exact hk
theorem needV {c : Prop} {u u' : AV} {K : AV → Prop} (h : c) (e : u = u') (hk : forceK u' K) : needK c (forceK u K) := by subst e; exact needI h hk
/-- where nothing lies -/
theorem tabN_free {n m : Nat} {t : Tab} {bad : Int} {p : Nat} {a : List (Nat × Nat)} {E : List (Nat × Blk)} {c : Nat → List Int} (hE : lowL E = true) {x : Nat} (h1 : 7005 ≤ x) (h2 : x < p) (h3 : fnA a x = none) : tabN n t m bad p a E c x = none := by
  unfold tabN overM
  rw [lowL_far (tabG_low hE) h1]
  dsimp only
  unfold rowsN sgF
  rw [h3]
  have : Nat.ble p x = false := by
    cases h : Nat.ble p x with
    | false => rfl
    | true => have := Nat.le_of_ble_eq_true h; omega
  rw [this]
  rfl
theorem tabN_dom {n m : Nat} {t : Tab} {bad : Int} {p : Nat} {c : Nat → List Int} {x : Nat} (h : tabN n t m bad p [] [] c x ≠ none) : x ∈ [7001, 7002, 7003, 7004] ∨ ∃ k, k < m ∧ x = p + k := by
  unfold tabN overM at h
  cases hL : Mem.ofL (tabG n t m bad p [] ++ []) x with
  | some B =>
    left
    have := ofL_mem hL
    rw [List.append_nil] at this
    unfold tabG at this
    simp only [List.mem_cons, Prod.mk.injEq, List.not_mem_nil, or_false] at this ⊢
    rcases this with ⟨h, _⟩ | ⟨h, _⟩ | ⟨h, _⟩ | ⟨h, _⟩ <;> simp [h]
  | none =>
    right
    rw [hL] at h
    dsimp only at h
    unfold rowsN at h
    cases hσ : sgF p m [] x with
    | none => rw [hσ] at h; exact absurd rfl h
    | some k =>
      have := sgF_some (a := []) trivial hσ
      exact ⟨k, this.1, this.2.symm⟩
theorem codeFS {P : Program} {tt : TT} {D : List Nat} {c : Code} {fr : List AV} {M M' : Mem} {Q : APost} (hs : Sub D fr M fr M') (h : codeK P tt D c fr M' Q) : codeF P tt D c fr M Q := codeFI hs h
theorem tab_subL {n m : Nat} {t : Tab} {bad : Int} {r : Nat} {c : Nat → List Int} (hr : r < m) {M : Mem} {fr fr' : List AV} {l : List Int} (h1 : memH (lm4 ++ [(141, .old 141)]) 400 M (tabG n t m bad 20000 [(8802, r)] ++ [(141, .row 3 0 encI l)])) (h2 : ∃ g, M 7004 = some (.hdr 28 g m) ∧ ∀ k, k < m → g k = [.row (lbF 20000 [(8802, r)] k) (n + 1) 1])
    (h3 : ∀ k, k < m → M (lbF 20000 [(8802, r)] k) = some (.row 3 0 encI (c k))) (h4 : avRs (lm4 ++ [(141, .old 141), (8802, .old 8802)]) 400 fr fr') :
    Sub [7001, 7002, 7003, 7004] fr M fr' (tabN n t m bad 20000 [(8802, r)] [(141, .row 3 0 encI l)] c) := by
  have f1 := foc1 (p := 20000) (m := m) (by decide) hr
  have lr : lbF 20000 [(8802, r)] r = 8802 := by rw [lbF, Nat.beq_refl]
  have e1 : ∀ k k', k < m → k' < m → lbF 20000 [(8802, r)] k = lbF 20000 [(8802, r)] k' → k = k' := fun k k' h h' e => lbF_inj f1.1 h h' e
  have e2 : ∀ k, k < m → ∀ y, lmFind (lm4 ++ [(141, .old 141)]) y ≠ some (.old (lbF 20000 [(8802, r)] k)) := by
    intro k hk y hy
    have := lowM_old (lm := lm4 ++ [(141, .old 141)]) rfl hy
    have := f1.big k
    omega
  have e3 : ∀ d ∈ [7001, 7002, 7003, 7004], lmFind (lm4 ++ [(141, .old 141)]) d = some (.old d) := by
    intro d hd
    simp only [List.mem_cons, List.not_mem_nil, or_false] at hd
    rcases hd with rfl | rfl | rfl | rfl <;> rfl
  have e4 : ∀ q ∈ [(141, LM.old 141), (8802, LM.old 8802)], famF (lm4 ++ [(141, .old 141)]) (fun x => (sgF 20000 m [(8802, r)] x).map (lbF 20000 [(8802, r)])) q.1 = some q.2 := by
    intro q hq
    simp only [List.mem_cons, List.not_mem_nil, or_false] at hq
    rcases hq with rfl | rfl
    · exact famF_lm _ _ rfl
    · refine famF_ψ rfl ?_
      show (some r).map (lbF 20000 [(8802, r)]) = some 8802
      rw [Option.map_some, lr]
  have e5 : ∀ k y, lmFind (lm4 ++ [(141, .old 141), (8802, .old 8802)]) k = some y → famF (lm4 ++ [(141, .old 141)]) (fun x => (sgF 20000 m [(8802, r)] x).map (lbF 20000 [(8802, r)])) k = some y :=
    lmFind_app (fun k y h => famF_lm k y (lmFind_appL h)) e4
  have g1 : lowL [(141, Blk.row 3 0 encI l)] = true := rfl
  have g2 : lowM [(141, LM.old 141)] = true := rfl
  have g3 : noH [(141, Blk.row 3 0 encI l)] := trivial
  have g4 : (keysB (lm4 ++ [(141, .old 141)]) (tabG n t m bad 20000 [(8802, r)] ++ [(141, .row 3 0 encI l)]) && oldsL (tabG n t m bad 20000 [(8802, r)] ++ [(141, .row 3 0 encI l)]) (lm4 ++ [(141, .old 141)])) = true := rfl
  have q1 := tab_sub (M := M) (fr := fr) (fr' := fr') (D := [7001, 7002, 7003, 7004]) (n := n) (m := m) (t := t) (bad := bad) (p := 20000) (a := [(8802, r)]) (E := [(141, .row 3 0 encI l)]) (c := c) [(141, .old 141)] (lm4 ++ [(141, .old 141), (8802, .old 8802)]) (lbF 20000 [(8802, r)]) f1 g1 g2 g3
  have q2 := q1 g4
  have q3 := q2 h1
  have q4 := q3 h2 h3 e1
  have q5 := q4 e2 e3
  have q6 := q5 e5
  exact q6 h4
/-- the same rows, others in focus -/
theorem tab_go {n m : Nat} {t : Tab} {bad : Int} {p : Nat} {a a' : List (Nat × Nat)} {c : Nat → List Int} {fr fr' : List AV} (ha : focB p m a) (ha' : focB p m a') (lmX : LMap) (hX : ∀ q ∈ lmX, famF (lm4 ++ []) (fun x => (sgF p m a' x).map (lbF p a)) q.1 = some q.2)
    (hf : avRs (lm4 ++ lmX) 400 fr fr') : Sub [7001, 7002, 7003, 7004] fr (tabN n t m bad p a [] c) fr' (tabN n t m bad p a' [] c) := by
  refine tab_sub (lmE := []) (lm4 ++ lmX) (lbF p a) ha' rfl rfl trivial rfl (auto_) ⟨_, rfl, fun k _ => rfl⟩ (fun k hk => tabN_row rfl ha hk) (fun k k' h h' e => lbF_inj ha.1 h h' e)
    (fun k hk y hy => by have := lowM_old (lm := lm4 ++ []) rfl hy; have := ha.big k; omega) (fun d hd => ?_) (lmFind_app (fun k y h => famF_lm k y (by rw [List.append_nil]; exact h)) hX) hf
  simp only [List.mem_cons, List.not_mem_nil, or_false] at hd
  rcases hd with rfl | rfl | rfl | rfl <;> rfl
end Go.Proofs.Ytgjmbmdaaahmkaa
