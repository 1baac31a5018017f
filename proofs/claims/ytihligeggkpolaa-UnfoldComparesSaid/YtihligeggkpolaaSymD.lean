/-
  The model's run of an operation that changes no memory gives what the abstract value says: the proofs.
-/
import Derived.Test.YtihligeggkpolaaSymC
namespace Go.Proofs.Ytihligeggkpolaa

section
variable {S : Store} {ρ : Env} {P : Program} {tt : TT} {w : World}

/-- what a run that gives a value is held against -/
def RsOkV (S : Store) (ρ : Env) (P : Program) (w : World) (m : Sem Value) : Rs → Prop
  | .no => True
  | .val u => ∃ v, m.run P w = .ok v w ∧ RV S ρ v u
  | .need c u => c → ∃ v, m.run P w = .ok v w ∧ RV S ρ v u
  | .arith c k n => c → m.run P w = .ok (.int k (k.wrap n)) w
  | .cmp p i => m.run P w = .ok (.bool (@decide p i)) w
theorem RsOkV.next {m : Sem Value} {r : Rs} (h : RsOkV S ρ P w m r) : RsOk S ρ P w (do pure (.value (← m))) r := by
  cases r with
  | no => trivial
  | val u => obtain ⟨v, e, hv⟩ := h; exact ⟨v, by simp [e], hv⟩
  | need c u => intro hc; obtain ⟨v, e, hv⟩ := h hc; exact ⟨v, by simp [e], hv⟩
  | arith c k n => intro hc; simp [h hc]
  | cmp p i => simp only [RsOk, RsOkV] at *; simp [h]

theorem evInt_ok (op : BinOp) (t : TypeId) (k : IntKind) (a b : Int) : RsOkV S ρ P w (binOp op t (.int k a) (.int k b)) (evInt op k a b) := by
  cases op <;> simp only [evInt, RsOkV]
  case add => intro _; simp [binOp, Op.intArith]
  case sub => intro _; simp [binOp, Op.intArith]
  case mul => intro _; simp [binOp, Op.intArith]
  case quo => intro h; simp [binOp, Op.intDiv, h]
  case rem => intro h; exact ⟨.int k (a.tmod b), by simp [binOp, Op.intDiv, h], .p (.int _ _)⟩
  case eql => simp only [binOp, Op.intCmp]; simp; by_cases h : a = b <;> simp [h]
  case neq => simp only [binOp, Op.intCmp]; simp; by_cases h : a = b <;> simp [h]
  case lss => simp [binOp, Op.intCmp]
  case leq => simp [binOp, Op.intCmp]
  case gtr => simp [binOp, Op.intCmp]
  case geq => simp [binOp, Op.intCmp]

theorem isSlice_ok (hT : TOkB P tt = true) {t : TypeId} (h : isSlice tt t = true) : ∃ e, P.underlying t = some (.slice e) := by
  unfold isSlice at h
  split at h
  · rename_i e _ hf; exact ⟨_, TOk.slice hT hf⟩
  · simp at h

theorem bytes_eq (a b : ByteArray) : (a.toList == b.toList) = decide (a = b) := by
  rw [ByteArray.toList_eq, ByteArray.toList_eq]
  by_cases h : a = b
  · subst h; simp
  · have : ¬ (a.data.toList = b.data.toList) := fun e => h (by cases a; cases b; congr 1; exact Array.ext' e)
    rw [decide_eq_false h]; simpa using this

theorem equalIn_nil {t e : TypeId} (he : P.underlying t = some (.slice e)) (d : Nat) (base : Option Addr) (n c : Nat) : (Op.equalIn (d + 1) t (.slice base n c) (.slice none 0 0)).run P w = .ok base.isNone w := by
  cases base <;> simp [Op.equalIn, run_underlying he]

theorem evNil_eql (hT : TOkB P tt = true) {t : TypeId} (ht : isSlice tt t = true) {x : AV} {v : Value} (hv : RV S ρ v x) (neg : Bool) :
    RsOkV S ρ P w (binOp (if neg then .neq else .eql) t v (.slice none 0 0)) (evNil neg x) := by
  obtain ⟨e, he⟩ := isSlice_ok hT ht
  have key : ∀ base n c, (Op.equal t (.slice base n c) (.slice none 0 0)).run P w = .ok base.isNone w := by
    intro base n c
    exact equalIn_nil he 9999 base n c
  have key2 : ∀ base n c, (binOp (if neg then .neq else .eql) t (.slice base n c) (.slice none 0 0)).run P w = .ok (.bool (if neg then !base.isNone else base.isNone)) w := by
    intro base n c
    cases neg <;> simp [binOp, key]
  cases x with
  | nilsl =>
    rw [hv.nilsl_inv]
    exact ⟨_, key2 _ _ _, by cases neg <;> exact .p (.bool _)⟩
  | sl d enc l =>
    intro hl
    cases hv.sl_inv with
    | sl _ _ _ base cap sz vals hcap ho hsz hb hn hv =>
      refine ⟨_, key2 _ _ _, ?_⟩
      cases base with
      | none => exact absurd rfl (hn hl)
      | some a => cases neg <;> exact .p (.bool _)
  | row ℓ n sz =>
    intro hl
    obtain ⟨b, hb, hn, hs, hz, rfl⟩ := hv.row_inv
    refine ⟨_, key2 _ _ _, ?_⟩
    have : b.nil = false := by
      cases h : b.nil
      · rfl
      · have := hz h; omega
    rw [this]
    cases neg <;> exact .p (.bool _)
  | _ => trivial

theorem isBool_ok (hT : TOkB P tt = true) {t : TypeId} (h : isBool tt t = true) : P.underlying t = some .bool := by
  unfold isBool at h
  split at h
  · rename_i hf; exact TOk.bool hT hf
  · simp at h
theorem equalIn_bool {t : TypeId} (he : P.underlying t = some .bool) (d : Nat) (a b : Bool) : (Op.equalIn (d + 1) t (.bool a) (.bool b)).run P w = .ok (bEq a b) w := by
  cases a <;> cases b <;> simp [Op.equalIn, run_underlying he, bEq]
theorem equal_bool (hT : TOkB P tt = true) {t : TypeId} (h : isBool tt t = true) (a b : Bool) : (Op.equal t (.bool a) (.bool b)).run P w = .ok (bEq a b) w :=
  equalIn_bool (isBool_ok hT h) 9999 a b
theorem evBin_ok (hT : TOkB P tt = true) (op : BinOp) (t : TypeId) (x y : Operand) {a b : AV} {u v : Value} (hu : RV S ρ u a) (hv : RV S ρ v b) :
    RsOkV S ρ P w (do eqGuard op t x y u v; binOp op t u v) (evBin tt op t a b) := by
  unfold evBin
  split
  · rename_i k a k' b
    cases hu.int_inv; cases hv.int_inv
    rw [eqGuard_at_int]
    split
    · intro hb
      exact ⟨.int k (a.fdiv (2 ^ min b.toNat k.bits)), by simp [binOp, Op.shift, Int.not_lt.2 hb], .p (.int _ _)⟩
    · intro hb
      simp [binOp, Op.shift, Int.not_lt.2 hb]
    · split
      · rename_i hk
        cases kn_inj hk
        have := evInt_ok (S := S) (ρ := ρ) (P := P) (w := w) op t k a b
        exact this
      · trivial
  · rename_i a b
    cases hu.str_inv; cases hv.str_inv
    rw [eqGuard_at_string]
    split
    · show Sem.run P _ w = _
      simp [binOp, Op.stringOp, bytes_eq]
    · show Sem.run P _ w = _
      simp [binOp, Op.stringOp, bytes_eq]
    · trivial
  · rename_i a b
    cases hu.bool_inv; cases hv.bool_inv
    have : eqGuard op t x y (.bool a) (.bool b) = pure () := by cases op <;> rfl
    rw [this]
    split
    · rename_i ht
      exact ⟨.bool (bEq a b), by simp [binOp, equal_bool hT ht], .p (.bool _)⟩
    · rename_i ht
      exact ⟨.bool (!bEq a b), by simp [binOp, equal_bool hT ht], .p (.bool _)⟩
    · trivial
  · cases hv.nilsl_inv
    have hg : ∀ u : Value, RsOkV S ρ P w (binOp op t u (.slice none 0 0)) (match op, isSlice tt t with
        | .eql, true => evNil false a
        | .neq, true => evNil true a
        | _, _ => .no) → RsOkV S ρ P w (do eqGuard op t x y u (.slice none 0 0); binOp op t u (.slice none 0 0)) (match op, isSlice tt t with
        | .eql, true => evNil false a
        | .neq, true => evNil true a
        | _, _ => .no) := by
      intro u hh
      have : eqGuard op t x y u (.slice none 0 0) = pure () := by cases op <;> cases u <;> rfl
      rw [this]; exact hh
    apply hg
    split
    · rename_i ht; exact evNil_eql hT ht hu false
    · rename_i ht; exact evNil_eql hT ht hu true
    · trivial
  · trivial

theorem evUn_ok (op : UnOp) {a : AV} {u : Value} (hu : RV S ρ u a) : RsOkV S ρ P w (Op.unary op u) (evUn op a) := by
  unfold evUn
  split
  · rename_i b; cases hu.bool_inv; exact ⟨.bool (!b), by simp [Op.unary], .p (.bool _)⟩
  · rename_i k n; cases hu.int_inv; intro _; simp [Op.unary, Op.intArith]
  · trivial

theorem evConv_ok (hT : TOkB P tt = true) {s d : TypeId} {i : TI} (hs : tt.find s = some i) {a : AV} {u : Value} (hu : RV S ρ u a) : RsOkV S ρ P w (convert s d u) (evConv tt d a) := by
  unfold evConv
  split
  · rename_i k n
    cases hu.int_inv
    split
    · rename_i sz b k z hd
      intro _
      have := TOk.kind hT hs
      have h2 := TOk.int hT hd
      have : ∃ x, P.underlying s = some x := by
        cases hx : P.underlying s with
        | none => rw [hx] at this; simp [kindB] at this
        | some x => exact ⟨x, rfl⟩
      obtain ⟨x, hx⟩ := this
      simp [convert, run_underlying hx, run_underlying h2, Conv.intToInt]
    · trivial
  · trivial

theorem evLen_ok (hT : TOkB P tt = true) {t ty : TypeId} {a : AV} {u : Value} (hu : RV S ρ u a) : RsOkV S ρ P w (Builtin.len_ #[t] ty #[u]) (evLen tt t a) := by
  unfold evLen
  split
  · rename_i l
    split
    · rename_i ht
      obtain ⟨e, he⟩ := isSlice_ok hT ht
      cases hu.sl_inv with
      | sl _ _ _ base cap sz vals hcap ho hsz hb hn hv => exact ⟨.int .i64 l.length, by simp [Builtin.len_, run_underlying he, goInt], .p (.int _ _)⟩
    · trivial
  · rename_i n
    split
    · rename_i ht
      obtain ⟨e, he⟩ := isSlice_ok hT ht
      obtain ⟨b, hb, rfl, rfl, hz, rfl⟩ := hu.row_inv
      exact ⟨.int .i64 b.len, by simp [Builtin.len_, run_underlying he, goInt, Lab.hdr], .p (.int _ _)⟩
    · trivial
  · split
    · rename_i ht
      obtain ⟨e, he⟩ := isSlice_ok hT ht
      cases hu.nilsl_inv
      exact ⟨.int .i64 0, by simp [Builtin.len_, run_underlying he, goInt], .p (.int _ _)⟩
    · trivial
  · rename_i s
    split
    · rename_i ht
      cases hu.str_inv
      exact ⟨.int .i64 s.size, by simp [Builtin.len_, run_underlying (TOk.string hT ht), goInt], .p (.int _ _)⟩
    · trivial
  · trivial

theorem evFieldAddr_ok (hT : TOkB P tt = true) {s : TypeId} {f : Nat} {a : AV} {u : Value} (hu : RV S ρ u a) : RsOkV S ρ P w (Instr.fieldAt s u f) (evFieldAddr tt s f a) := by
  unfold evFieldAddr
  split
  · rename_i sz by_ fs z hs
    obtain ⟨gs, hgs, he, hpos⟩ := TOk.struct hT hs
    split
    · rename_i o ft hf
      rw [nth_eq, ← he, List.getElem?_map] at hf
      obtain ⟨g, hg, hgo⟩ := Option.map_eq_some_iff.1 hf
      have hg' : gs[f]? = some g := by simpa using hg
      have hmem : g ∈ gs.toList := List.mem_of_getElem? hg
      obtain ⟨hne, x, hx⟩ := hpos g hmem
      have hsz : ∀ w, (Go.sizeOf g.type).run P w = .ok (P.cellsOf g.type) w := fun w => run_sizeOf w hx
      injection hgo with ho _
      have run : ∀ ad : Addr, (Instr.fieldAt s (.pointer (some ad)) f).run P w = .ok (.pointer (some (ad.add o))) w := by
        intro ad
        simp [Instr.fieldAt, run_underlying hgs, hg', Instr.sureAddr, fieldPlace, hsz, hne, ho]
      split
      · rename_i ℓ off
        obtain ⟨b, hb, rfl⟩ := hu.ptr_inv
        exact ⟨_, run _, by rw [Addr.add_mk]; exact .ptr _ _ _ hb⟩
      · rename_i ℓ i off
        obtain ⟨b, hb, hi, rfl⟩ := hu.rel_inv
        exact ⟨_, run _, by rw [Addr.add_mk, Nat.add_assoc]; exact .rel _ _ _ _ hb hi⟩
      · rename_i cells
        cases hu.pd_inv with
        | pd _ ad vals hb hv =>
          refine ⟨_, run _, .p (.pd _ _ (fun j => vals (o + j)) (fun j hj => ?_) (fun j u hu => ?_))⟩
          · rw [Addr.add_add]; exact hb _ (by simp at hj; omega)
          · rw [List.getElem?_drop] at hu; exact hv _ _ hu
      · trivial
    · trivial
  · trivial

/-- loading or taking a part, by what the cells stand for -/
theorem evPart_load (hT : TOkB P tt = true) {t : TypeId} {cells : List AV} {ad : Addr}
    (hc : ∀ (j : Nat) u, cells[j]? = some u → ∃ v, w.cell? (ad.add j) = some v ∧ RV S ρ v u) : RsOkV S ρ P w (Instr.loadAt t (.pointer (some ad))) (evPart tt t cells) := by
  unfold evPart
  split
  · rename_i i hi
    have hag := TOk.agg hT hi w
    have hsz := TOk.size hT hi w
    split
    · rename_i hk
      rw [hk] at hag
      split
      · rename_i hle
        have hle := Nat.le_of_ble_eq_true hle
        have hval : ∀ j, j < i.size → ∃ v, w.cell? (ad.add j) = some v := fun j hj => by
          obtain ⟨v, hv, _⟩ := hc j cells[j] (by simp)
          exact ⟨v, hv⟩
        let f : Nat → Value := fun j => (w.cell? (ad.add j)).getD undef
        have hl := run_loadCells (P := P) (w := w) ad i.size f (fun j hj => by obtain ⟨v, hv⟩ := hval j hj; simp [f, hv])
        refine ⟨.agg _, by simp [Instr.loadAt, Instr.sureAddr, loadVar, hag, hsz, hl]; rfl, ?_⟩
        refine .agg _ _ (by simp; omega) f (fun j hj => by simp at hj; simp [hj]) (fun j u hu => ?_)
        rw [List.getElem?_take] at hu
        split at hu
        · obtain ⟨v, hv, hr⟩ := hc j u hu
          simpa [f, hv] using hr
        · simp at hu
      · trivial
    · rename_i hk
      rw [hk] at hag
      split
      · rename_i u r
        obtain ⟨v, hv, hr⟩ := hc 0 u (by simp)
        rw [Addr.add_zero] at hv
        exact ⟨v, by simp [Instr.loadAt, Instr.sureAddr, loadVar, hag, hv], hr⟩
      · trivial
  · trivial
theorem evPart_part (hT : TOkB P tt = true) {t : TypeId} {cells : List AV} {cs : Array Value} {o : Nat}
    (hc : RVs S ρ (cs.toList.drop o) cells) : RsOkV S ρ P w (part t cs o) (evPart tt t cells) := by
  unfold evPart
  split
  · rename_i i hi
    have hag := TOk.agg hT hi w
    have hsz := TOk.size hT hi w
    split
    · rename_i hk
      rw [hk] at hag
      split
      · rename_i hle
        have hle := Nat.le_of_ble_eq_true hle
        refine ⟨_, by simp [part, hag, hsz]; rfl, ?_⟩
        have := RV.agg_mk (hc.take i.size)
        have e : ((cs.toList.drop o).take i.size).toArray = cs.extract o (o + i.size) := by
          apply Array.ext'
          simp [List.extract_eq_take_drop]
        rw [e] at this
        exact this
      · trivial
    · rename_i hk
      rw [hk] at hag
      split
      · rename_i u r
        obtain ⟨v, hv, hr⟩ := hc.2 0 u (by simp)
        have : cs[o]? = some v := by simpa using hv
        exact ⟨v, by simp [part, hag, this], hr⟩
      · trivial
  · trivial

end
end Go.Proofs.Ytihligeggkpolaa
