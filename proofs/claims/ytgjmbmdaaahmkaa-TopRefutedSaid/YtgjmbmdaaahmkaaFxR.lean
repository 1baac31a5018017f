
/-
  Contracts: a node split into two, by the program (branch as a hypothesis).
-/
import Derived.Test.YtgjmbmdaaahmkaaFxQ
set_option linter.unusedVariables false
set_option linter.unusedSimpArgs false
namespace Go.Proofs.Ytgjmbmdaaahmkaa
set_option maxRecDepth 100000
set_option maxHeartbeats 32000000

/-! ### steps by hand -/
theorem ops_hand {P : Program} {tt : TT} {draw : Option DMode} {all r : List Oper} {o : Oper} {fr fr' : List AV} {M : Mem} {K : List AV → Mem → Prop} (u : AV) (hg : o.guard = none)
    (h : ∀ K' : AV → Mem → Prop, K' u M → semK P tt draw o ((opnds o.op).map (avOf fr)) M K') (e : setD fr o.dst u = fr') (hk : opsK P tt draw all r fr' M K) : opsK P tt draw all (o :: r) fr M K := by
  subst e
  simp only [opsK]
  rw [stepK_eq]
  rw [hg]
  simp only [gv]
  exact h _ hk
theorem ops_box {P : Program} {tt : TT} {draw : Option DMode} {all r : List Oper} {fr : List AV} {M : Mem} {K : List AV → Mem → Prop} {t ty : TypeId} {ps : String} {af : Array Edge} {a b : Operand} {ℓ o : Nat} {x : AV} {cs cells cells' : List AV} {bt : TypeId} {i : TI}
    (hd : draw = some .flat ∨ draw = some .any) (ha : avOf fr a = .ptr ℓ o) (hb : avOf fr b = x) (hc : cellsA x = some cs) (ht : tt.find t = some i) (hM : M ℓ = some (.box bt cells)) (h1 : Nat.beq cs.length i.size = true) (h2 : allOne cs = true) (h3 : Nat.ble (o + cs.length) cells.length = true)
    (hs : splice cells o cs = cells') (hk : opsK P tt draw all r fr (M.set ℓ (.box bt cells')) K) :
    opsK P tt draw all ({ dst := none, op := .store t a b, type := ty, pos := ps, after := af, guard := none } :: r) fr M K := by
  subst hs
  simp only [opsK]
  rw [stepK_eq]
  rcases hd with rfl | rfl
  · simp only [gv, opnds, List.map_cons, List.map_nil, ha, hb, semK, storeM, storeK, hc, ht, hM, h1, h2, h3, setD, forceL_eq]
    exact hk
  · simp only [gv, opnds, List.map_cons, List.map_nil, ha, hb, semK, storeM, storeK, hc, ht, hM, h1, h2, h3, setD, forceL_eq]
    exact hk

theorem ops_call {P : Program} {tt : TT} {all r : List Oper} {fr : List AV} {M : Mem} {K : List AV → Mem → Prop} {d : Option Tmp} {a : Operand} {xs : Array Operand} {ts : Array TypeId} {ty : TypeId} {ps : String} {af : Array Edge} {f : FuncId} {caps us : List AV}
    (ha : avOf fr a = .fn f caps) (hs : xs.toList.map (avOf fr) = us) (h : Spec P f (us ++ caps) M fun u M' => opsK P tt none all r (setD fr d u) M' K) :
    opsK P tt none all ({ dst := d, op := .call { callee := .value a, args := xs, argTypes := ts }, type := ty, pos := ps, after := af, guard := none } :: r) fr M K := by
  subst hs
  simp only [opsK]
  rw [stepK_eq]
  simp only [gv, opnds, List.map_cons, ha, semK, catK_eq]
  exact h
theorem opsK_nil {P : Program} {tt : TT} {draw : Option DMode} {all : List Oper} {fr : List AV} {M : Mem} {K : List AV → Mem → Prop} (h : K fr M) : opsK P tt draw all [] fr M K := h
theorem codeK_seqI {P : Program} {tt : TT} {D : List Nat} {a b : Code} {fr : List AV} {M : Mem} {Q : APost} (h : codeK P tt D a fr M fun e fr' M' => match e with
    | .normal => codeK P tt D b fr' M' Q
    | .exit i => Q (.exit i) fr' M'
    | .ret => Q .ret fr' M') : codeK P tt D (.seq a b) fr M Q := h
theorem codeK_regI {P : Program} {tt : TT} {D : List Nat} {id : Nat} {ops : Array Oper} {fr : List AV} {M : Mem} {Q : APost} (h : opsK P tt none ops.toList ops.toList fr M (Q .normal)) : codeK P tt D (.region id ops false) fr M Q := h

/-! ### a row behind a box becomes known for good -/
section
variable {P : Program} {S F : Store} {ρ : Env} {M : Mem} {w : World}
/-- a memory may be told as another -/
def Wk (M M' : Mem) : Prop := ∀ S F ρ w, RepM S F ρ M w → ∃ S', Store.le S S' ∧ RepM S' F ρ M' w
theorem Wk.leakBox {ℓ ℓb : Nat} {t tb : TypeId} {α : Type} {d : α} {enc : α → List AV} {l : List α} {cells : List AV} (hl : M ℓ = some (.row t d enc l)) (hb : M ℓb = some (.box tb cells)) :
    Wk M ((M.set ℓ (.gone d enc l)).set ℓb (.box tb (cells.map (swapRow ℓ (.sl d enc l))))) := by
  intro S F ρ w hM
  obtain ⟨S1, b, hle, _, hM1, _⟩ := hM.leak hl
  have hne : ℓb ≠ ℓ := fun e => by subst e; rw [hl] at hb; cases hb
  have hb1 : M.set ℓ (.gone d enc l) ℓb = some (.box tb cells) := by rw [Mem.set_ne _ _ hne]; exact hb
  obtain ⟨c, hc, vs, h1, h2, h3, h4⟩ := hM1.blk _ _ hb1
  refine ⟨S1, hle, hM1.upd hb1 hc (fun _ _ => rfl) (fun h => h) ⟨vs, h1, ⟨by simpa using h2.1, fun i u hu => ?_⟩, h3, h4⟩⟩
  rw [List.getElem?_map] at hu
  obtain ⟨u0, h0, rfl⟩ := Option.map_eq_some_iff.1 hu
  obtain ⟨v, hv, hr⟩ := h2.2 i u0 h0
  exact ⟨v, hv, swapRow_ok hM1 (Mem.set_eq _ _ _) hr⟩
theorem Spec.wk {f : FuncId} {args : List AV} {M' : Mem} {R : AV → Mem → Prop} (hw : Wk M M') (h : Spec P f args M' R) : Spec P f args M R := by
  rw [Spec_iff] at h ⊢
  refine ⟨h.1, fun S F ρ vs w hM hv => ?_⟩
  obtain ⟨S1, hle, hM1⟩ := hw S F ρ w hM
  refine (h.2 S1 F ρ vs w hM1 (hv.mono hle (Env.le_refl _))).mono ?_
  rintro e w' ⟨v, u, M', S', ρ', a, b, c, r⟩
  exact ⟨v, u, M', S', ρ', a, b, Store.le_trans hle c, r⟩
theorem Spec.after {f : FuncId} {args : List AV} {R R' : AV → Mem → Prop} (h : Spec P f args M R) (hk : ∀ u M', R u M' → ∃ M'', Wk M' M'' ∧ R' u M'') : Spec P f args M R' := by
  rw [Spec_iff] at h ⊢
  refine ⟨h.1, fun S F ρ vs w hM hv => (h.2 S F ρ vs w hM hv).mono ?_⟩
  rintro e w' ⟨v, u, M', S', ρ', rfl, hR, hle, hρ, hM', hr, hw⟩
  obtain ⟨M'', hw2, hR'⟩ := hk u M' hR
  obtain ⟨S2, hle2, hM2⟩ := hw2 S' F ρ' w' hM'
  exact ⟨v, u, M'', S2, ρ', rfl, hR', Store.le_trans hle hle2, hρ, hM2, hr.mono hle2 (Env.le_refl _), hw⟩
theorem Wk.refl (M : Mem) : Wk M M := fun S F ρ w hM => ⟨S, Store.le_refl _, hM⟩
end

/-! ### the brancher's memory, its rows known for good -/
def bxS (n : Nat) (rows : List Row) (ln nn : Nat) (li le : Int) (pc : AV) (g : Bool) : List AV := [.int .i64 n, .sl row0 encRw rows, .row ln nn 5, .int .i64 li, .int .i64 le, pc, .bool g]
def brS (n : Nat) (rows : List Row) (nodes : List Nod) (li le : Int) (g : Bool) : List (Nat × Blk) :=
  [(6001, .box 53 (bxS n rows 6003 nodes.length li le .nilsl g)), (6002, .dead), (6003, .row 63 nod0 encNo nodes)]
def brP (n : Nat) (rows : List Row) (nodes : List Nod) (li le : Int) (pc : AV) (g : Bool) : List (Nat × Blk) :=
  [(6001, .box 53 (bxS n rows 6005 nodes.length li le pc g)), (6002, .dead), (6003, .dead), (6005, .row 63 nod0 encNo nodes)]
def lmP (s : Nat) : LMap := [(6001, .old 6001), (6002, .old 6002), (6003, .old 6003), (6005, .old s)]
theorem openS (n : Nat) (rows : List Row) (nodes : List Nod) (li le : Int) (g : Bool) (hn : nodes.length ≤ 100000) (hl : 0 ≤ le ∧ le ≤ 100000) :
    Spec Try.prog 16 [.ptr 6001 0] (Mem.ofL (brS n rows nodes li le g))
      (fun u M => (le = 0 ∧ u = .int .i64 (-1) ∧ M = Mem.ofL (brP n rows nodes li le .nilsl true)) ∨ (le ≠ 0 ∧ u = .int .i64 nodes.length ∧ M = Mem.ofL (brP n rows (nodes ++ [nodN]) li (le - 1) .nilsl g))) := by
  refine Spec.renorm 400 (R := fun u M => (le = 0 ∧ u = .int .i64 (-1) ∧ memR (lmP 6003) 400 M (brP n rows nodes li le .nilsl true)) ∨ (le ≠ 0 ∧ u = .int .i64 nodes.length ∧ memR (lmP 25) 400 M (brP n rows (nodes ++ [nodN]) li (le - 1) .nilsl g))) ?_ ?_
  case refine_2 =>
    rintro u M' (⟨h0, rfl, hM⟩ | ⟨h0, rfl, hM⟩)
    · exact ⟨_, _, .int .i64 (-1), rfl, hM, rfl, .inl ⟨h0, rfl, rfl⟩⟩
    · exact ⟨_, _, .int .i64 nodes.length, rfl, hM, rfl, .inr ⟨h0, rfl, rfl⟩⟩
  refine Spec.intro tt_ok mx_ok (brS n rows nodes li le g) Try.func16 rfl (by decide) ?_
  conv => whnf
  refine cmpI (fun h1 => ?_) (fun h1 => ?_) <;> conv => whnf
  · exact .inl ⟨h1, rfl, auto_⟩
  · refine arI trivial (by omega) ?_
    conv => whnf
    first | refine drawI (by decide +kernel) ?_ | refine drawG (by decide +kernel) ?_ | skip
    conv => whnf
    refine bldW nod0 encNo [nodN] ⟨⟨.inr ⟨rfl, _, _, _, rfl⟩, .inl rfl, .inl rfl, .inl rfl, .inl rfl, trivial⟩, trivial⟩ ?_
    conv => whnf
    first | refine leakN ?_ | skip
    conv => whnf
    refine appI [nodN] rfl (by simp only [List.length_cons, List.length_nil]; omega) ?_
    conv => whnf
    refine arI trivial (by simp only [List.length_cons, List.length_nil]; omega) ?_
    conv => whnf
    refine .inr ⟨h1, avI (by simp only [List.length_append, List.length_cons, List.length_nil]; omega), auto_⟩
/-- the cell that holds the point -/
def PtA : Option (List Int) → AV → Prop
  | none, pc => pc = .nilsl
  | some x, pc => (x ≠ [] ∧ pc = .sl 0 encI x) ∨ (x = [] ∧ ∃ ad : Addr, pc = .val (.slice (some ad) 0 0))
/-- what a branch leaves -/
def brR (n : Nat) (c : Br) (u : AV) (M : Mem) : Prop := u = .tup [] ∧ ∃ pc, PtA c.point pc ∧ M = Mem.ofL (brP n c.rows c.nodes c.lines c.left pc c.gave)
/-- numbers stay small -/
def brW (b : Br) : Prop := b.rows.length + b.left ≤ 1600 + b.lines ∧ b.nodes.length + b.left ≤ 1000
/-- a branch's contract, for a fuel -/
def BrH (n k : Nat) : Prop := ∀ (b : Br) (i : Nat), BrIn n i b → 0 < i → b.left < k → brW b →
  Spec Try.prog 15 [.ptr 6001 0, .int .i64 (i : Int)] (Mem.ofL (brL n b.rows b.nodes b.lines b.left b.gave)) (brR n (brB n k b i))
/-- a node split -/
def lefB (n i : Nat) (v a : Int) (b : Br) : Br := (setLb i v a b.nodes.length (openB b)).put b.rows (splL n v a)
def rigB (n i : Nat) (v a : Int) (b : Br) (l : List Row) : Br := (setRb i v a b.nodes.length (openB b)).put l (splR n v (a + 1))
def spB (n k : Nat) (b : Br) (i : Nat) (v a : Int) : Br :=
  if 1048576 < a then b.give
  else if b.left = 0 then b.give
  else
    let c := (brB n k (lefB n i v a b) b.nodes.length).cut b.rows.length
    if c.point.isSome = true ∨ c.gave = true then c
    else if c.left = 0 then c.give
    else (brB n k (rigB n i v a c b.rows) c.nodes.length).cut b.rows.length
def nV (x : Nod) (v : Int) : Nod := { x with var := v }
def nA (x : Nod) (v : Int) : Nod := { x with at_ := v }
def nL (x : Nod) (v : Int) : Nod := { x with left := v }
def nR (x : Nod) (v : Int) : Nod := { x with right := v }
theorem nd_eq {N0 N1 N2 N3 : List Nod} {i : Nat} {v a : Int} {f : Nod → Nod} (hi : i < N0.length) (h1 : N0.set i (nV (N0.getD i nod0) v) = N1) (h2 : N1.set i (nA (N1.getD i nod0) a) = N2) (h3 : N2.set i (f (N2.getD i nod0)) = N3) :
    N3 = N0.set i (f (nA (nV (N0.getD i nod0) v) a)) ∧ N1.length = N0.length ∧ N2.length = N0.length ∧ N3.length = N0.length := by
  subst h3; subst h2; subst h1
  refine ⟨?_, by simp, by simp, by simp⟩
  rw [List.set_set, List.set_set, getD_setB hi, getD_setB (by rw [List.length_set]; exact hi)]
def slL (n : Nat) (c : Br) : List (Nat × Blk) := [(6001, .box 53 (bxS n c.rows 1001 c.nodes.length c.lines c.left .nilsl false)), (6002, .dead), (6003, .dead), (1001, .row 63 nod0 encNo c.nodes)]
theorem PtA_cases {p : Option (List Int)} {pc : AV} (h : PtA p pc) : (p = none ∧ pc = .nilsl) ∨ (∃ x, p = some x ∧ x ≠ [] ∧ pc = .sl 0 encI x) ∨ (∃ ad : Addr, p = some [] ∧ pc = .val (.slice (some ad) 0 0)) := by
  cases p with
  | none => exact .inl ⟨rfl, h⟩
  | some x =>
    rcases h with ⟨h1, h2⟩ | ⟨rfl, ad, h2⟩
    · exact .inr (.inl ⟨x, rfl, h1, h2⟩)
    · exact .inr (.inr ⟨ad, rfl, h2⟩)
theorem lef_in {n i : Nat} {v a : Int} {b0 b : Br} (h : BrIn n i b0) (ha : AdOk n i b0 b) (hg : b.gave = false) (hv : 0 ≤ v ∧ v < n) (har : 0 ≤ a ∧ a ≤ 1048576) : BrIn n b.nodes.length (lefB n i v a b) := by
  have hb : b.nodes.length = i + 1 := ha.len.trans h.len
  refine ⟨?_, ?_, ha.pt.trans h.pt, hg, rdy_app (ha.rdy h.rdy) (spl_rdy (.inr rfl) (by unfold numB; omega)), ha.lmx h.lmx, h.n96⟩
  · unfold lefB setLb openB Br.put
    simp only [List.length_set, List.length_append, List.length_singleton]
  · unfold lefB setLb openB Br.put
    dsimp only
    rw [getD_set_ne (by omega), getD_at]
theorem lef_w {n i : Nat} {v a : Int} {b : Br} (hW : brW b) (hl : b.left ≠ 0) : brW (lefB n i v a b) := by
  obtain ⟨h1, h2⟩ := hW
  refine ⟨?_, ?_⟩
  · show (b.rows ++ [splL n v a]).length + (b.left - 1) ≤ 1600 + b.lines
    rw [List.length_append, List.length_singleton]; omega
  · show ((b.nodes ++ [nodN]).set i _).length + (b.left - 1) ≤ 1000
    rw [List.length_set, List.length_append, List.length_singleton]; omega
theorem rig_in {n i : Nat} {v a : Int} {b0 b c : Br} (h : BrIn n i b0) (ha : AdOk n i b0 b) (har : 0 ≤ a ∧ a ≤ 1048576) (hH : HfOk n i v a b0 b c) (hp : c.point = none) (hg : c.gave = false) : BrIn n c.nodes.length (rigB n i v a c b.rows) := by
  refine ⟨?_, ?_, hp, hg, rdy_app (ha.rdy h.rdy) (spl_rdy (.inl rfl) (by unfold numB; omega)), hH.lmx, h.n96⟩
  · unfold rigB setRb openB Br.put
    simp only [List.length_set, List.length_append, List.length_singleton]
  · have := hH.len
    unfold rigB setRb openB Br.put
    dsimp only
    rw [getD_set_ne (by omega), getD_at]
theorem hf_lines {n i : Nat} {v a : Int} {b0 b c : Br} (h : BrIn n i b0) (ha : AdOk n i b0 b) (hH : HfOk n i v a b0 b c) : b.lines ≤ c.lines ∧ c.left + 1 ≤ b.left ∧ c.nodes.length + c.left = b.nodes.length + b.left := by
  have k1 := hH.lin
  have k2 := lin_new h ha
  have k3 := linN_mono c.nodes (show i + 1 ≤ c.nodes.length by have := hH.len; omega)
  rw [linN_one, hH.nod] at k3
  dsimp only at k3
  have k4 := hH.cnt
  have k5 := ha.lft
  have k6 := ha.len
  have k7 := hH.len
  have k8 := h.len
  omega
theorem rig_w {n i : Nat} {v a : Int} {b0 b c : Br} (h : BrIn n i b0) (ha : AdOk n i b0 b) (hH : HfOk n i v a b0 b c) (hW : brW b) (hl : c.left ≠ 0) : brW (rigB n i v a c b.rows) := by
  obtain ⟨h1, h2⟩ := hW
  obtain ⟨k1, k2, k3⟩ := hf_lines h ha hH
  refine ⟨?_, ?_⟩
  · show (b.rows ++ [splR n v (a + 1)]).length + (c.left - 1) ≤ 1600 + c.lines
    rw [List.length_append, List.length_singleton]; omega
  · show ((c.nodes ++ [nodN]).set i _).length + (c.left - 1) ≤ 1000
    rw [List.length_set, List.length_append, List.length_singleton]; omega
theorem take_of {n i : Nat} {b d : Br} {l : List Row} {r : Row} (h : BrOk n i b d) (hr : b.rows = l ++ [r]) : l.length ≤ d.rows.length ∧ d.rows.take l.length = l := by
  obtain ⟨m, em⟩ := h.rows
  rw [em, hr, List.append_assoc]
  exact ⟨by rw [List.length_append]; omega, List.take_left' rfl⟩
theorem cut_pt (d : Br) (m : Nat) : (d.cut m).point = d.point := rfl
theorem sp_stop {n k i : Nat} {b : Br} {v a : Int} (hal : ¬ 1048576 < a) (hl : b.left ≠ 0) (hs : ((brB n k (lefB n i v a b) b.nodes.length).cut b.rows.length).point.isSome = true ∨ ((brB n k (lefB n i v a b) b.nodes.length).cut b.rows.length).gave = true) :
    spB n k b i v a = (brB n k (lefB n i v a b) b.nodes.length).cut b.rows.length := by
  unfold spB
  rw [if_neg hal, if_neg hl]
  dsimp only
  rw [if_pos hs]
theorem sp_zero {n k i : Nat} {b c : Br} {v a : Int} (hal : ¬ 1048576 < a) (hl : b.left ≠ 0) (hc : c = (brB n k (lefB n i v a b) b.nodes.length).cut b.rows.length) (hp : c.point = none) (hg : c.gave = false) (h0 : c.left = 0) :
    spB n k b i v a = c.give := by
  subst hc
  unfold spB
  rw [if_neg hal, if_neg hl]
  dsimp only
  rw [if_neg (fun h => by rcases h with h | h; rw [hp] at h; cases h; rw [hg] at h; cases h), if_pos h0]
theorem sp_two {n k i : Nat} {b c : Br} {v a : Int} (hal : ¬ 1048576 < a) (hl : b.left ≠ 0) (hc : c = (brB n k (lefB n i v a b) b.nodes.length).cut b.rows.length) (hp : c.point = none) (hg : c.gave = false) (h0 : c.left ≠ 0) :
    spB n k b i v a = (brB n k (rigB n i v a c b.rows) c.nodes.length).cut b.rows.length := by
  subst hc
  unfold spB
  rw [if_neg hal, if_neg hl]
  dsimp only
  rw [if_neg (fun h => by rcases h with h | h; rw [hp] at h; cases h; rw [hg] at h; cases h), if_neg h0]
theorem splitF (n k i : Nat) (b0 b : Br) (v a : Int) (h : BrIn n i b0) (ha : AdOk n i b0 b) (hg : b.gave = false) (hv : 0 ≤ v ∧ v < n) (h0 : 0 ≤ a ∧ a ≤ 1073741824) (hk : b.left ≤ k) (hW : brW b) (ih : BrH n k) :
    Spec Try.prog 33 [.ptr 6001 0, .int .i64 (i : Int), .int .i64 v, .int .i64 a] (Mem.ofL (brS n b.rows b.nodes b.lines b.left false)) (brR n (spB n k b i v a)) := by
  have hb : b.nodes.length = i + 1 := ha.len.trans h.len
  have hrdy := ha.rdy h.rdy
  have hlmx := ha.lmx h.lmx
  have hn96 := h.n96
  have hpt : b.point = none := ha.pt.trans h.pt
  have hW1 := hW.1
  have hW2 := hW.2
  refine Spec.renorm 400 (R := fun u M => u = .tup [] ∧ ∃ pc, PtA (spB n k b i v a).point pc ∧
    (memR (lmP 6003) 400 M (brP n (spB n k b i v a).rows (spB n k b i v a).nodes (spB n k b i v a).lines (spB n k b i v a).left pc (spB n k b i v a).gave) ∨
     memR (lmP 1001) 400 M (brP n (spB n k b i v a).rows (spB n k b i v a).nodes (spB n k b i v a).lines (spB n k b i v a).left pc (spB n k b i v a).gave) ∨
     memR (lmP 1006) 400 M (brP n (spB n k b i v a).rows (spB n k b i v a).nodes (spB n k b i v a).lines (spB n k b i v a).left pc (spB n k b i v a).gave) ∨
     memR (lmP 1007) 400 M (brP n (spB n k b i v a).rows (spB n k b i v a).nodes (spB n k b i v a).lines (spB n k b i v a).left pc (spB n k b i v a).gave))) ?_ ?_
  case refine_2 =>
    rintro u M' ⟨rfl, pc, hpc, hM | hM | hM | hM⟩
    · exact ⟨_, _, .tup [], rfl, hM, trivial, rfl, pc, hpc, rfl⟩
    · exact ⟨_, _, .tup [], rfl, hM, trivial, rfl, pc, hpc, rfl⟩
    · exact ⟨_, _, .tup [], rfl, hM, trivial, rfl, pc, hpc, rfl⟩
    · exact ⟨_, _, .tup [], rfl, hM, trivial, rfl, pc, hpc, rfl⟩
  refine Spec.intro tt_ok mx_ok (brS n b.rows b.nodes b.lines b.left false) Try.func33 rfl (by decide) ?_
  conv => whnf
  refine cmpI (fun h1 => ?_) (fun h1 => ?_) <;> conv => whnf
  · have e : spB n k b i v a = b.give := by unfold spB; rw [if_pos h1]
    rw [e]
    refine ⟨rfl, .nilsl, ?_, .inl (auto_)⟩
    show PtA b.point .nilsl
    rw [hpt]
    rfl
  have hal : ¬ 1048576 < a := h1
  have har : 0 ≤ a ∧ a ≤ 1048576 := by omega
  first | refine drawI (by decide +kernel) ?_ | refine drawG (by decide +kernel) ?_ | skip
  conv => whnf
  (refine oC (atMostF n v a (by omega) hv) ?_; conv => whnf)
  refine arI trivial (by omega) ?_
  conv => whnf
  (refine oC (atLeastF n v (a + 1) (by omega) hv (by omega)) ?_; conv => whnf)
  refine bldI row0 encRw [splL n v a, splR n v (a + 1)] rfl ?_
  conv => whnf
  refine leakY ?_
  conv => whnf
  refine WPc.loopF tt_ok mx_ok (fun x : Nat × Br => x.2.rows = b.rows ∧ x.2.point = none ∧ x.2.gave = false ∧ ((x.1 = 0 ∧ x.2 = b) ∨ (x.1 = 1 ∧ b.left ≠ 0 ∧ x.2 = (brB n k (lefB n i v a b) b.nodes.length).cut b.rows.length) ∨ (x.1 = 2 ∧ x.2 = spB n k b i v a))) (fun x => [(40, .int .i64 (x.1 : Int))]) (fun x => slL n x.2) (fun x => 2 - x.1) (0, b) ⟨rfl, hpt, hg, .inl ⟨rfl, rfl⟩⟩ ?_; conv => whnf
  refine ⟨Sub.by_ [(6001, .old 6001), (6002, .old 6002), (6003, .old 6003), (1001, .old 6003)] _ 400 rfl (auto_) (auto_), ?_⟩
  rintro ⟨s, c⟩ ⟨hcr, hcp, hcg, hs⟩
  dsimp only at hcr hcp hcg hs
  conv => whnf
  rcases hs with ⟨rfl, rfl⟩ | ⟨rfl, hbl, hc⟩ | ⟨rfl, hc⟩
  · have hzero : c.left = 0 → spB n k c i v a = c.give := fun h => by unfold spB; rw [if_neg hal, if_pos h]
    have hIn : BrIn n c.nodes.length (lefB n i v a c) := lef_in h ha hg hv har
    have hlt : c.left ≠ 0 → (lefB n i v a c).left < k := fun hl => by show c.left - 1 < k; omega
    have hW3 : c.left ≠ 0 → brW (lefB n i v a c) := fun hl => lef_w hW hl
    have hfin : c.left ≠ 0 → c.rows.length ≤ (brB n k (lefB n i v a c) c.nodes.length).rows.length ∧ (brB n k (lefB n i v a c) c.nodes.length).rows.take c.rows.length = c.rows ∧ (((brB n k (lefB n i v a c) c.nodes.length).point.isSome = true ∨ (brB n k (lefB n i v a c) c.nodes.length).gave = true) → spB n k c i v a = (brB n k (lefB n i v a c) c.nodes.length).cut c.rows.length) := fun hl => by
      have := take_of (brB_ok k hIn) (l := c.rows) (r := splL n v a) rfl
      exact ⟨this.1, this.2, fun hs => sp_stop hal hl hs⟩
    refine cmpT (by dsimp only; simp only [List.length_cons, List.length_nil]; omega) ?_
    conv => whnf
    refine needI (by dsimp only; simp only [List.length_cons, List.length_nil]; omega) ?_
    conv => whnf
    have hO := openS n c.rows c.nodes c.lines c.left false (by omega) (by omega)
    obtain ⟨N0, hN0⟩ : ∃ N0, N0 = c.nodes ++ [nodN] := ⟨_, rfl⟩
    rw [← hN0] at hO
    refine Spec.call [(6001, .old 6001), (6002, .old 6002), (6003, .old 1001)] (brS n c.rows c.nodes c.lines c.left false) 400 rfl (auto_) (auto_) hO ?_
    rintro u M' (⟨hl0, rfl, rfl⟩ | ⟨hl0, rfl, rfl⟩)
    · refine ⟨[(6001, .old 6001), (6002, .old 6002), (1001, .old 6003), (1006, .old 6005)], [(6001, .box 53 (bxS n c.rows 1006 c.nodes.length c.lines c.left .nilsl true)), (6002, .dead), (1001, .dead), (1006, .row 63 nod0 encNo c.nodes)], .int .i64 (-1), rfl, (auto_), rfl, ?_⟩
      conv => whnf
      rw [hzero (by omega)]
      refine ⟨rfl, .nilsl, ?_, .inr (.inr (.inl (auto_)))⟩
      show PtA c.point .nilsl
      rw [hcp]
      rfl
    have hl1 : c.left ≠ 0 := by omega
    refine ⟨[(6001, .old 6001), (6002, .old 6002), (1001, .old 6003), (1006, .old 6005)], [(6001, .box 53 (bxS n c.rows 1006 N0.length c.lines (c.left - 1) .nilsl false)), (6002, .dead), (1001, .dead), (1006, .row 63 nod0 encNo N0)], .int .i64 c.nodes.length, rfl, (auto_), rfl, ?_⟩
    conv => whnf
    refine cmpF (by omega) ?_
    conv => whnf
    have hln : N0.length = c.nodes.length + 1 := by rw [hN0, List.length_append]; rfl
    refine needI (by omega) ?_
    rw [Int.toNat_natCast]
    conv => whnf
    refine rowSetI (nV (N0.getD i nod0) v) rfl ?_
    generalize hN1 : N0.set i (nV (N0.getD i nod0) v) = N1
    conv => whnf
    refine rowSetI (nA (N1.getD i nod0) a) rfl ?_
    generalize hN2 : N1.set i (nA (N1.getD i nod0) a) = N2
    conv => whnf
    refine cmpT (by dsimp only; omega) ?_
    conv => whnf
    refine rowSetI (nL (N2.getD i nod0) (c.nodes.length : Int)) rfl ?_
    generalize hN3 : N2.set i (nL (N2.getD i nod0) (c.nodes.length : Int)) = N3
    obtain ⟨hq, hq1, hq2, hq3⟩ := nd_eq (f := fun x => nL x (c.nodes.length : Int)) (by omega) hN1 hN2 hN3
    clear hN1 hN2 hN3
    conv => whnf
    first | refine drawI (by decide +kernel) ?_ | refine drawG (by decide +kernel) ?_ | refine drawO (by decide +kernel) ?_ | refine drawX [(76, 6001), (81, 10), (85, 6001)] (by decide +kernel) ?_
    conv => whnf
    refine needI (by rw [hcr]; omega) ?_
    conv => whnf
    refine bldI row0 encRw [splL n v a] rfl ?_
    conv => whnf
    first | refine leakN ?_ | skip
    conv => whnf
    refine needI (by simp only [List.length_cons, List.length_nil]; omega) ?_
    conv => whnf
    refine appI [splL n v a] rfl (by simp only [List.length_cons, List.length_nil]; omega) ?_
    refine putI ?_
    refine ops_hand (.ptr 6001 0) rfl (fun K' h => h) rfl ?_
    refine ops_hand (.ptr 6001 1) rfl (fun K' h => h) rfl ?_
    refine ops_box (ℓ := 6001) (o := 1) (x := .row 83 (c.rows.length + 1) 2) (.inl rfl) rfl rfl rfl rfl rfl rfl rfl rfl rfl ?_
    refine opsK_nil ?_
    dsimp only
    refine codeK_seqI (codeK_regI ?_)
    refine ops_hand (.ptr 6001 0) rfl (fun K' h => h) rfl ?_
    refine ops_hand (.int .i64 c.nodes.length) rfl (fun K' h => h) rfl ?_
    refine ops_call (f := 15) (caps := []) (us := [.ptr 6001 0, .int .i64 c.nodes.length]) rfl rfl ?_
    have hS := ih (lefB n i v a c) c.nodes.length hIn (by omega) (hlt hl1) (hW3 hl1)
    have e1 : (lefB n i v a c).rows = c.rows ++ [splL n v a] := rfl
    have e2 : (lefB n i v a c).nodes = N3 := by rw [hq, hN0]; rfl
    have e3 : ((lefB n i v a c).left : Int) = (c.left : Int) - 1 := by show ((c.left - 1 : Nat) : Int) = _; omega
    have e4 : ((lefB n i v a c).lines : Int) = (c.lines : Int) := rfl
    have e5 : (lefB n i v a c).gave = false := hcg
    rw [e1, e2, e3, e4, e5] at hS
    refine Spec.call [(6001, .old 6001), (6002, .old 83), (6003, .old 1006)] (brL n (c.rows ++ [splL n v a]) N3 c.lines ((c.left : Int) - 1) false) 400 rfl (auto_) (auto_) hS ?_
    rintro u M' ⟨rfl, pc, hpc, rfl⟩
    obtain ⟨d, hd⟩ : ∃ d, d = brB n k (lefB n i v a c) c.nodes.length := ⟨_, rfl⟩
    have hfin := hfin hl1
    rw [← hd] at hpc hfin ⊢
    obtain ⟨hdl, hdt, hfin⟩ := hfin
    rcases PtA_cases hpc with ⟨hp, rfl⟩ | ⟨x, hp, hx, rfl⟩ | ⟨ad, hp, rfl⟩
    · cases hgv : d.gave
      · refine ⟨[(6001, .old 6001), (83, .old 6002), (1006, .old 6003), (1007, .old 6005)], [(6001, .box 53 (bxS n d.rows 1007 d.nodes.length d.lines d.left .nilsl false)), (83, .dead), (1006, .dead), (1007, .row 63 nod0 encNo d.nodes)], .tup [], rfl, (auto_), trivial, ?_⟩
        refine opsK_nil ?_
        dsimp only
        conv => whnf
        refine needI (by omega) ?_
        rw [Int.toNat_natCast]
        conv => whnf
        refine arI trivial (by first | omega | (dsimp only; omega)) ?_
        conv => whnf
        refine ⟨(1, d.cut c.rows.length), Sub.by_ [(6001, .old 6001), (6002, .old 6002), (6003, .old 6003), (1001, .old 1007)] _ 400 rfl (auto_) (auto_), ⟨hdt, hp, hgv, ?_⟩, by dsimp only; omega⟩
        exact .inr (.inl ⟨rfl, hl1, by rw [hd]⟩)
      · refine ⟨[(6001, .old 6001), (83, .old 6002), (1006, .old 6003), (1007, .old 6005)], [(6001, .box 53 (bxS n d.rows 1007 d.nodes.length d.lines d.left .nilsl true)), (83, .dead), (1006, .dead), (1007, .row 63 nod0 encNo d.nodes)], .tup [], rfl, (auto_), trivial, ?_⟩
        refine opsK_nil ?_
        dsimp only
        conv => whnf
        refine needI (by omega) ?_
        rw [Int.toNat_natCast]
        conv => whnf
        rw [hfin (.inr hgv)]
        exact ⟨rfl, .nilsl, by rw [cut_pt, hp]; rfl, .inr (.inr (.inr (by rw [show (d.cut c.rows.length).gave = true from hgv]; repeat' (first | exact True.intro | exact rfl | (refine And.intro ?_ ?_) | ((conv => whnf); omega) | ((conv => whnf); simp only [List.length_append, List.length_cons, List.length_nil]; done) | ((conv => whnf); simp only [List.length_append, List.length_cons, List.length_nil]; omega)))))⟩
    · refine ⟨[(6001, .old 6001), (83, .old 6002), (1006, .old 6003), (1007, .old 6005)], [(6001, .box 53 (bxS n d.rows 1007 d.nodes.length d.lines d.left (.sl 0 encI x) d.gave)), (83, .dead), (1006, .dead), (1007, .row 63 nod0 encNo d.nodes)], .tup [], rfl, (auto_), trivial, ?_⟩
      refine opsK_nil ?_
      dsimp only
      conv => whnf
      refine needI (by omega) ?_
      rw [Int.toNat_natCast]
      conv => whnf
      refine needI hx ?_
      conv => whnf
      rw [hfin (.inl (by rw [hp]; rfl))]
      exact ⟨rfl, .sl 0 encI x, by rw [cut_pt, hp]; exact .inl ⟨hx, rfl⟩, .inr (.inr (.inr (auto_)))⟩
    · refine ⟨[(6001, .old 6001), (83, .old 6002), (1006, .old 6003), (1007, .old 6005)], [(6001, .box 53 (bxS n d.rows 1007 d.nodes.length d.lines d.left (.val (.slice (some ad) 0 0)) d.gave)), (83, .dead), (1006, .dead), (1007, .row 63 nod0 encNo d.nodes)], .tup [], rfl, (auto_), trivial, ?_⟩
      refine opsK_nil ?_
      dsimp only
      conv => whnf
      refine needI (by omega) ?_
      rw [Int.toNat_natCast]
      conv => whnf
      rw [hfin (.inl (by rw [hp]; rfl))]
      exact ⟨rfl, .val (.slice (some ad) 0 0), by rw [cut_pt, hp]; exact .inr ⟨rfl, ad, rfl⟩, .inr (.inr (.inr (auto_)))⟩
  · have hIn0 : BrIn n b.nodes.length (lefB n i v a b) := lef_in h ha hg hv har
    have hH : HfOk n i v a b0 b c := by
      have hk1 := brB_ok (n := n) k hIn0
      rw [hb] at hk1
      have := half_ok h ha hv har hbl (c0 := brB n k (lefB n i v a b) (i + 1)) hk1
      rw [hc, hb]
      exact this
    have hzero : c.left = 0 → spB n k b i v a = c.give := fun h => sp_zero hal hbl hc hcp hcg h
    have hIn : BrIn n c.nodes.length (rigB n i v a c b.rows) := rig_in h ha har hH hcp hcg
    obtain ⟨q1, q2, q3⟩ := hf_lines h ha hH
    have hclm := hH.lmx
    have hcln := hH.len
    have hlt : c.left ≠ 0 → (rigB n i v a c b.rows).left < k := fun hl => by show c.left - 1 < k; omega
    have hW3 : c.left ≠ 0 → brW (rigB n i v a c b.rows) := fun hl => rig_w h ha hH hW hl
    have hcl : c.rows.length = b.rows.length := by rw [hcr]
    have hfin : c.left ≠ 0 → b.rows.length ≤ (brB n k (rigB n i v a c b.rows) c.nodes.length).rows.length ∧ (brB n k (rigB n i v a c b.rows) c.nodes.length).rows.take b.rows.length = b.rows ∧ (((brB n k (rigB n i v a c b.rows) c.nodes.length).point.isSome = true ∨ (brB n k (rigB n i v a c b.rows) c.nodes.length).gave = true) → spB n k b i v a = (brB n k (rigB n i v a c b.rows) c.nodes.length).cut b.rows.length) := fun hl => by
      have := take_of (brB_ok k hIn) (l := b.rows) (r := splR n v (a + 1)) rfl
      exact ⟨this.1, this.2, fun _ => sp_two hal hbl hc hcp hcg hl⟩
    have hfin2 : c.left ≠ 0 → spB n k b i v a = (brB n k (rigB n i v a c b.rows) c.nodes.length).cut b.rows.length := fun hl => by exact sp_two hal hbl hc hcp hcg hl
    refine cmpT (by dsimp only; simp only [List.length_cons, List.length_nil]; omega) ?_
    conv => whnf
    refine needI (by dsimp only; simp only [List.length_cons, List.length_nil]; omega) ?_
    conv => whnf
    have hO := openS n c.rows c.nodes c.lines c.left false (by omega) (by omega)
    obtain ⟨N0, hN0⟩ : ∃ N0, N0 = c.nodes ++ [nodN] := ⟨_, rfl⟩
    rw [← hN0] at hO
    refine Spec.call [(6001, .old 6001), (6002, .old 6002), (6003, .old 1001)] (brS n c.rows c.nodes c.lines c.left false) 400 rfl (auto_) (auto_) hO ?_
    rintro u M' (⟨hl0, rfl, rfl⟩ | ⟨hl0, rfl, rfl⟩)
    · refine ⟨[(6001, .old 6001), (6002, .old 6002), (1001, .old 6003), (1006, .old 6005)], [(6001, .box 53 (bxS n c.rows 1006 c.nodes.length c.lines c.left .nilsl true)), (6002, .dead), (1001, .dead), (1006, .row 63 nod0 encNo c.nodes)], .int .i64 (-1), rfl, (auto_), rfl, ?_⟩
      conv => whnf
      rw [hzero (by omega)]
      refine ⟨rfl, .nilsl, ?_, .inr (.inr (.inl (auto_)))⟩
      show PtA c.point .nilsl
      rw [hcp]
      rfl
    have hl1 : c.left ≠ 0 := by omega
    refine ⟨[(6001, .old 6001), (6002, .old 6002), (1001, .old 6003), (1006, .old 6005)], [(6001, .box 53 (bxS n c.rows 1006 N0.length c.lines (c.left - 1) .nilsl false)), (6002, .dead), (1001, .dead), (1006, .row 63 nod0 encNo N0)], .int .i64 c.nodes.length, rfl, (auto_), rfl, ?_⟩
    conv => whnf
    refine cmpF (by omega) ?_
    conv => whnf
    have hln : N0.length = c.nodes.length + 1 := by rw [hN0, List.length_append]; rfl
    refine needI (by omega) ?_
    rw [Int.toNat_natCast]
    conv => whnf
    refine rowSetI (nV (N0.getD i nod0) v) rfl ?_
    generalize hN1 : N0.set i (nV (N0.getD i nod0) v) = N1
    conv => whnf
    refine rowSetI (nA (N1.getD i nod0) a) rfl ?_
    generalize hN2 : N1.set i (nA (N1.getD i nod0) a) = N2
    conv => whnf
    refine cmpF (by dsimp only; omega) ?_
    conv => whnf
    refine rowSetI (nR (N2.getD i nod0) (c.nodes.length : Int)) rfl ?_
    generalize hN3 : N2.set i (nR (N2.getD i nod0) (c.nodes.length : Int)) = N3
    obtain ⟨hq, hq1, hq2, hq3⟩ := nd_eq (f := fun x => nR x (c.nodes.length : Int)) (by omega) hN1 hN2 hN3
    clear hN1 hN2 hN3
    conv => whnf
    first | refine drawI (by decide +kernel) ?_ | refine drawG (by decide +kernel) ?_ | refine drawO (by decide +kernel) ?_ | refine drawX [(76, 6001), (81, 10), (85, 6001)] (by decide +kernel) ?_
    conv => whnf
    refine needI (by rw [hcr]; omega) ?_
    conv => whnf
    refine bldI row0 encRw [splR n v (a + 1)] rfl ?_
    conv => whnf
    first | refine leakN ?_ | skip
    conv => whnf
    refine needI (by simp only [List.length_cons, List.length_nil]; omega) ?_
    conv => whnf
    refine appI [splR n v (a + 1)] rfl (by simp only [List.length_cons, List.length_nil]; omega) ?_
    refine putI ?_
    refine ops_hand (.ptr 6001 0) rfl (fun K' h => h) rfl ?_
    refine ops_hand (.ptr 6001 1) rfl (fun K' h => h) rfl ?_
    refine ops_box (ℓ := 6001) (o := 1) (x := .row 83 (c.rows.length + 1) 2) (.inl rfl) rfl rfl rfl rfl rfl rfl rfl rfl rfl ?_
    refine opsK_nil ?_
    dsimp only
    refine codeK_seqI (codeK_regI ?_)
    refine ops_hand (.ptr 6001 0) rfl (fun K' h => h) rfl ?_
    refine ops_hand (.int .i64 c.nodes.length) rfl (fun K' h => h) rfl ?_
    refine ops_call (f := 15) (caps := []) (us := [.ptr 6001 0, .int .i64 c.nodes.length]) rfl rfl ?_
    have hS := ih (rigB n i v a c b.rows) c.nodes.length hIn (by omega) (hlt hl1) (hW3 hl1)
    have e1 : (rigB n i v a c b.rows).rows = c.rows ++ [splR n v (a + 1)] := (by rw [hcr]; rfl)
    have e2 : (rigB n i v a c b.rows).nodes = N3 := by rw [hq, hN0]; rfl
    have e3 : ((rigB n i v a c b.rows).left : Int) = (c.left : Int) - 1 := by show ((c.left - 1 : Nat) : Int) = _; omega
    have e4 : ((rigB n i v a c b.rows).lines : Int) = (c.lines : Int) := rfl
    have e5 : (rigB n i v a c b.rows).gave = false := hcg
    rw [e1, e2, e3, e4, e5] at hS
    refine Spec.call [(6001, .old 6001), (6002, .old 83), (6003, .old 1006)] (brL n (c.rows ++ [splR n v (a + 1)]) N3 c.lines ((c.left : Int) - 1) false) 400 rfl (auto_) (auto_) hS ?_
    rintro u M' ⟨rfl, pc, hpc, rfl⟩
    obtain ⟨d, hd⟩ : ∃ d, d = brB n k (rigB n i v a c b.rows) c.nodes.length := ⟨_, rfl⟩
    have hfin := hfin hl1
    have hfin2 := hfin2 hl1
    rw [← hd] at hfin2
    rw [← hd] at hpc hfin ⊢
    obtain ⟨hdl, hdt, hfin⟩ := hfin
    rcases PtA_cases hpc with ⟨hp, rfl⟩ | ⟨x, hp, hx, rfl⟩ | ⟨ad, hp, rfl⟩
    · cases hgv : d.gave
      · refine ⟨[(6001, .old 6001), (83, .old 6002), (1006, .old 6003), (1007, .old 6005)], [(6001, .box 53 (bxS n d.rows 1007 d.nodes.length d.lines d.left .nilsl false)), (83, .dead), (1006, .dead), (1007, .row 63 nod0 encNo d.nodes)], .tup [], rfl, (auto_), trivial, ?_⟩
        refine opsK_nil ?_
        dsimp only
        conv => whnf
        refine needI (by omega) ?_
        rw [Int.toNat_natCast]
        conv => whnf
        refine arI trivial (by first | omega | (dsimp only; omega)) ?_
        conv => whnf
        refine ⟨(2, d.cut b.rows.length), Sub.by_ [(6001, .old 6001), (6002, .old 6002), (6003, .old 6003), (1001, .old 1007)] _ 400 rfl (auto_) (auto_), ⟨hdt, hp, hgv, ?_⟩, by dsimp only; omega⟩
        exact .inr (.inr ⟨rfl, hfin2.symm⟩)
      · refine ⟨[(6001, .old 6001), (83, .old 6002), (1006, .old 6003), (1007, .old 6005)], [(6001, .box 53 (bxS n d.rows 1007 d.nodes.length d.lines d.left .nilsl true)), (83, .dead), (1006, .dead), (1007, .row 63 nod0 encNo d.nodes)], .tup [], rfl, (auto_), trivial, ?_⟩
        refine opsK_nil ?_
        dsimp only
        conv => whnf
        refine needI (by omega) ?_
        rw [Int.toNat_natCast]
        conv => whnf
        rw [hfin (.inr hgv)]
        exact ⟨rfl, .nilsl, by rw [cut_pt, hp]; rfl, .inr (.inr (.inr (by rw [show (d.cut b.rows.length).gave = true from hgv]; repeat' (first | exact True.intro | exact rfl | (refine And.intro ?_ ?_) | ((conv => whnf); omega) | ((conv => whnf); simp only [List.length_append, List.length_cons, List.length_nil]; done) | ((conv => whnf); simp only [List.length_append, List.length_cons, List.length_nil]; omega)))))⟩
    · refine ⟨[(6001, .old 6001), (83, .old 6002), (1006, .old 6003), (1007, .old 6005)], [(6001, .box 53 (bxS n d.rows 1007 d.nodes.length d.lines d.left (.sl 0 encI x) d.gave)), (83, .dead), (1006, .dead), (1007, .row 63 nod0 encNo d.nodes)], .tup [], rfl, (auto_), trivial, ?_⟩
      refine opsK_nil ?_
      dsimp only
      conv => whnf
      refine needI (by omega) ?_
      rw [Int.toNat_natCast]
      conv => whnf
      refine needI hx ?_
      conv => whnf
      rw [hfin (.inl (by rw [hp]; rfl))]
      exact ⟨rfl, .sl 0 encI x, by rw [cut_pt, hp]; exact .inl ⟨hx, rfl⟩, .inr (.inr (.inr (auto_)))⟩
    · refine ⟨[(6001, .old 6001), (83, .old 6002), (1006, .old 6003), (1007, .old 6005)], [(6001, .box 53 (bxS n d.rows 1007 d.nodes.length d.lines d.left (.val (.slice (some ad) 0 0)) d.gave)), (83, .dead), (1006, .dead), (1007, .row 63 nod0 encNo d.nodes)], .tup [], rfl, (auto_), trivial, ?_⟩
      refine opsK_nil ?_
      dsimp only
      conv => whnf
      refine needI (by omega) ?_
      rw [Int.toNat_natCast]
      conv => whnf
      rw [hfin (.inl (by rw [hp]; rfl))]
      exact ⟨rfl, .val (.slice (some ad) 0 0), by rw [cut_pt, hp]; exact .inr ⟨rfl, ad, rfl⟩, .inr (.inr (.inr (auto_)))⟩
  · refine cmpF (by dsimp only; simp only [List.length_cons, List.length_nil]; omega) ?_
    conv => whnf
    rw [← hc]
    refine ⟨rfl, .nilsl, by rw [hcp]; rfl, .inr (.inl ?_)⟩
    rw [hcg]
    exact (auto_)
end Go.Proofs.Ytgjmbmdaaahmkaa
