/-
  Abstract values for a symbolic walk: what a Go value and the memory behind it stand for. Definitions, and how they are kept when memory grows.
-/
import Derived.Orders
import Derived.KernelRfl
import Derived.Below
namespace Go.Proofs.Ytihligeggkpolaa

/-- What is known for good of memory: blocks that nobody writes any more. -/
abbrev Store := Nat → Option Obj
def Store.le (S S' : Store) : Prop := ∀ b o, S b = some o → S' b = some o
def Store.inW (S : Store) (w : World) : Prop := ∀ b o, S b = some o → w.heap[b]? = some o
def Store.cell (S : Store) (a : Addr) : Option Value :=
  match S a.block with
  | some (.cells c _ _) => if a.spot.isSome then none else c[a.off]?
  | _ => none

theorem Store.le_refl (S : Store) : S.le S := fun _ _ h => h
theorem Store.le_trans {S S' S'' : Store} (h : S.le S') (h' : S'.le S'') : S.le S'' := fun b o e => h' b o (h b o e)
theorem Store.cell_mono {S S' : Store} (h : S.le S') {a : Addr} {v : Value} (hc : S.cell a = some v) : S'.cell a = some v := by
  unfold Store.cell at *
  cases hb : S a.block with
  | none => simp [hb] at hc
  | some o => rw [h _ _ hb]; rw [hb] at hc; exact hc
theorem Store.cell_w {S : Store} {w : World} (h : S.inW w) {a : Addr} {v : Value} (hc : S.cell a = some v) : w.cell? a = some v := by
  unfold Store.cell at hc
  unfold World.cell?
  cases hb : S a.block with
  | none => simp [hb] at hc
  | some o => rw [h _ _ hb]; rw [hb] at hc; exact hc

theorem Addr.add_mk (b o n : Nat) : (⟨b, o, none⟩ : Addr).add n = ⟨b, o + n, none⟩ := by
  unfold Addr.add; split
  · subst_vars; rfl
  · rfl
theorem Addr.add_add (a : Addr) (i j : Nat) : (a.add i).add j = a.add (i + j) := by
  unfold Addr.add
  by_cases hi : i = 0 <;> by_cases hj : j = 0 <;> simp [hi, hj, Nat.add_assoc]
theorem Addr.add_zero (a : Addr) : a.add 0 = a := by simp [Addr.add]
theorem Addr.add_block (a : Addr) (i : Nat) : (a.add i).block = a.block := by unfold Addr.add; split <;> rfl

/-- Abstract values. 'sl': a slice that reads as a list, for good; 'pd': a pointer to cells that are known for good; 'ptr', 'row', 'rel': into a block of the call's own, by its label. -/
inductive AV : Type 1
  | top
  | int (k : IntKind) (n : Int)
  | bool (b : Bool)
  | str (s : ByteArray)
  | nilsl
  | val (v : Value)
  | sl {α : Type} (d : α) (enc : α → List AV) (l : List α)
  | pd (cells : List AV)
  | fn (f : FuncId) (caps : List AV)
  | agg (cs : List AV)
  | tup (vs : List AV)
  | ptr (ℓ off : Nat)
  | row (ℓ n sz : Nat)
  | rel (ℓ i off : Nat)

/-- what may lie in a cell -/
def oneV : Value → Bool
  | .agg _ | .tuple _ => false
  | _ => true
def oneA : AV → Bool
  | .top | .agg _ | .tup _ => false
  | .val v => oneV v
  | _ => true
def allOne : List AV → Bool
  | [] => true
  | u :: us => match oneA u with | true => allOne us | false => false

/-- What stands for good: labels are not spoken of. -/
inductive RP (S : Store) : Value → AV → Prop
  | top (v : Value) : RP S v .top
  | int (k : IntKind) (n : Int) : RP S (.int k n) (.int k n)
  | bool (b : Bool) : RP S (.bool b) (.bool b)
  | str (s : ByteArray) : RP S (.string s) (.str s)
  | nilsl : RP S (.slice none 0 0) .nilsl
  | val (v : Value) : RP S v (.val v)
  | sl {α : Type} (d : α) (enc : α → List AV) (l : List α) (base : Option Addr) (cap sz : Nat) (vals : Nat → Nat → Value)
      (hcap : l.length ≤ cap) (ho : ∀ a ∈ l, allOne (enc a) = true) (hsz : ∀ a ∈ l, (enc a).length = sz)
      (hb : ∀ i j, i < l.length → j < sz → ∃ ad, base = some ad ∧ S.cell (ad.add (i * sz + j)) = some (vals i j))
      (hn : l ≠ [] → base ≠ none)
      (hv : ∀ i a j u, l[i]? = some a → (enc a)[j]? = some u → RP S (vals i j) u) : RP S (.slice base l.length cap) (.sl d enc l)
  | pd (cells : List AV) (ad : Addr) (vals : Nat → Value)
      (hb : ∀ j, j < cells.length → S.cell (ad.add j) = some (vals j))
      (hv : ∀ (j : Nat) u, cells[j]? = some u → RP S (vals j) u) : RP S (.pointer (some ad)) (.pd cells)
  | fn (f : FuncId) (caps : List AV) (vs : Array Value) (hs : vs.size = caps.length) (vals : Nat → Value)
      (he : ∀ i, i < vs.size → vs[i]? = some (vals i)) (hv : ∀ (j : Nat) u, caps[j]? = some u → RP S (vals j) u) : RP S (.func (.func f) #[] vs) (.fn f caps)
  | agg (cs : List AV) (vs : Array Value) (hs : vs.size = cs.length) (vals : Nat → Value)
      (he : ∀ i, i < vs.size → vs[i]? = some (vals i)) (hv : ∀ (j : Nat) u, cs[j]? = some u → RP S (vals j) u) : RP S (.agg vs) (.agg cs)
  | tup (cs : List AV) (vs : Array Value) (hs : vs.size = cs.length) (vals : Nat → Value)
      (he : ∀ i, i < vs.size → vs[i]? = some (vals i)) (hv : ∀ (j : Nat) u, cs[j]? = some u → RP S (vals j) u) : RP S (.tuple vs) (.tup cs)

theorem RP.mono {S S' : Store} (h : S.le S') {v : Value} {u : AV} (hr : RP S v u) : RP S' v u := by
  induction hr with
  | top v => exact .top v
  | int k n => exact .int k n
  | bool b => exact .bool b
  | str s => exact .str s
  | nilsl => exact .nilsl
  | val v => exact .val v
  | sl d enc l base cap sz vals hcap ho hsz hb hn _ ih =>
    exact .sl d enc l base cap sz vals hcap ho hsz (fun i j hi hj => let ⟨ad, e, hc⟩ := hb i j hi hj; ⟨ad, e, Store.cell_mono h hc⟩) hn ih
  | pd cells ad vals hb _ ih => exact .pd cells ad vals (fun j hj => Store.cell_mono h (hb j hj)) ih
  | fn f caps vs hs vals he _ ih => exact .fn f caps vs hs vals he ih
  | agg cs vs hs vals he _ ih => exact .agg cs vs hs vals he ih
  | tup cs vs hs vals he _ ih => exact .tup cs vs hs vals he ih

/-- Where a block of the call's own lies. -/
structure Lab where
  blk : Nat
  len : Nat
  cap : Nat
  sz : Nat
  nil : Bool
def Lab.hdr (b : Lab) : Value := .slice (if b.nil then none else some ⟨b.blk, 0, none⟩) b.len b.cap

abbrev Env := Nat → Option Lab
def Env.le (ρ ρ' : Env) : Prop := ∀ ℓ b, ρ ℓ = some b → ρ' ℓ = some b
theorem Env.le_refl (ρ : Env) : Env.le ρ ρ := fun _ _ h => h
theorem Env.le_trans {ρ ρ' ρ'' : Env} (h : Env.le ρ ρ') (h' : Env.le ρ' ρ'') : Env.le ρ ρ'' := fun b o e => h' b o (h b o e)

inductive RV (S : Store) (ρ : Env) : Value → AV → Prop
  | p {v : Value} {u : AV} (h : RP S v u) : RV S ρ v u
  | ptr (ℓ off : Nat) (b : Lab) (h : ρ ℓ = some b) : RV S ρ (.pointer (some ⟨b.blk, off, none⟩)) (.ptr ℓ off)
  | row (ℓ n sz : Nat) (b : Lab) (h : ρ ℓ = some b) (hn : b.len = n) (hs : b.sz = sz) (hz : b.nil = true → b.len = 0) : RV S ρ b.hdr (.row ℓ n sz)
  | rel (ℓ i off : Nat) (b : Lab) (h : ρ ℓ = some b) (hi : i < b.len) : RV S ρ (.pointer (some ⟨b.blk, i * b.sz + off, none⟩)) (.rel ℓ i off)
  | fn (f : FuncId) (caps : List AV) (vs : Array Value) (hs : vs.size = caps.length) (vals : Nat → Value)
      (he : ∀ i, i < vs.size → vs[i]? = some (vals i)) (hv : ∀ (j : Nat) u, caps[j]? = some u → RV S ρ (vals j) u) : RV S ρ (.func (.func f) #[] vs) (.fn f caps)
  | agg (cs : List AV) (vs : Array Value) (hs : vs.size = cs.length) (vals : Nat → Value)
      (he : ∀ i, i < vs.size → vs[i]? = some (vals i)) (hv : ∀ (j : Nat) u, cs[j]? = some u → RV S ρ (vals j) u) : RV S ρ (.agg vs) (.agg cs)
  | tup (cs : List AV) (vs : Array Value) (hs : vs.size = cs.length) (vals : Nat → Value)
      (he : ∀ i, i < vs.size → vs[i]? = some (vals i)) (hv : ∀ (j : Nat) u, cs[j]? = some u → RV S ρ (vals j) u) : RV S ρ (.tuple vs) (.tup cs)

theorem RV.mono {S S' : Store} {ρ ρ' : Env} (h : S.le S') (hρ : Env.le ρ ρ') {v : Value} {u : AV} (hr : RV S ρ v u) : RV S' ρ' v u := by
  induction hr with
  | p hp => exact .p (hp.mono h)
  | ptr ℓ off b hb => exact .ptr ℓ off b (hρ _ _ hb)
  | row ℓ n sz b hb hn hs hz => exact .row ℓ n sz b (hρ _ _ hb) hn hs hz
  | rel ℓ i off b hb hi => exact .rel ℓ i off b (hρ _ _ hb) hi
  | fn f caps vs hs vals he _ ih => exact .fn f caps vs hs vals he ih
  | agg cs vs hs vals he _ ih => exact .agg cs vs hs vals he ih
  | tup cs vs hs vals he _ ih => exact .tup cs vs hs vals he ih

/-- Lists of values against lists of abstract values. -/
def RVs (S : Store) (ρ : Env) (vs : List Value) (us : List AV) : Prop := vs.length = us.length ∧ ∀ (i : Nat) u, us[i]? = some u → ∃ v, vs[i]? = some v ∧ RV S ρ v u
def RPs (S : Store) (vs : List Value) (us : List AV) : Prop := vs.length = us.length ∧ ∀ (i : Nat) u, us[i]? = some u → ∃ v, vs[i]? = some v ∧ RP S v u

theorem RVs.mono {S S' : Store} {ρ ρ' : Env} (h : S.le S') (hρ : Env.le ρ ρ') {vs : List Value} {us : List AV} (hr : RVs S ρ vs us) : RVs S' ρ' vs us :=
  ⟨hr.1, fun i u hu => let ⟨v, e, hv⟩ := hr.2 i u hu; ⟨v, e, hv.mono h hρ⟩⟩
theorem RPs.mono {S S' : Store} (h : S.le S') {vs : List Value} {us : List AV} (hr : RPs S vs us) : RPs S' vs us :=
  ⟨hr.1, fun i u hu => let ⟨v, e, hv⟩ := hr.2 i u hu; ⟨v, e, hv.mono h⟩⟩
theorem RPs.rv {S : Store} (ρ : Env) {vs : List Value} {us : List AV} (hr : RPs S vs us) : RVs S ρ vs us :=
  ⟨hr.1, fun i u hu => let ⟨v, e, hv⟩ := hr.2 i u hu; ⟨v, e, .p hv⟩⟩
theorem RVs.nil (S : Store) (ρ : Env) : RVs S ρ [] [] := ⟨rfl, fun i u hu => by simp at hu⟩
theorem RPs.nil (S : Store) : RPs S [] [] := ⟨rfl, fun i u hu => by simp at hu⟩
theorem RVs.cons {S : Store} {ρ : Env} {v : Value} {u : AV} {vs : List Value} {us : List AV} (h : RV S ρ v u) (hr : RVs S ρ vs us) : RVs S ρ (v :: vs) (u :: us) := by
  refine ⟨by simp [hr.1], fun i x hx => ?_⟩
  cases i with
  | zero => simp at hx; subst hx; exact ⟨v, by simp, h⟩
  | succ i => simp at hx; obtain ⟨y, hy, hh⟩ := hr.2 i x hx; exact ⟨y, by simpa using hy, hh⟩
theorem RPs.cons {S : Store} {v : Value} {u : AV} {vs : List Value} {us : List AV} (h : RP S v u) (hr : RPs S vs us) : RPs S (v :: vs) (u :: us) := by
  refine ⟨by simp [hr.1], fun i x hx => ?_⟩
  cases i with
  | zero => simp at hx; subst hx; exact ⟨v, by simp, h⟩
  | succ i => simp at hx; obtain ⟨y, hy, hh⟩ := hr.2 i x hx; exact ⟨y, by simpa using hy, hh⟩
theorem RVs.cons_inv {S : Store} {ρ : Env} {vs : List Value} {u : AV} {us : List AV} (h : RVs S ρ vs (u :: us)) : ∃ v vs', vs = v :: vs' ∧ RV S ρ v u ∧ RVs S ρ vs' us := by
  cases vs with
  | nil => simp [RVs] at h
  | cons v vs =>
    refine ⟨v, vs, rfl, ?_, by simpa using h.1, fun i x hx => ?_⟩
    · obtain ⟨y, hy, hh⟩ := h.2 0 u (by simp); simp at hy; subst hy; exact hh
    · obtain ⟨y, hy, hh⟩ := h.2 (i + 1) x (by simpa using hx); exact ⟨y, by simpa using hy, hh⟩
theorem RPs.cons_inv {S : Store} {vs : List Value} {u : AV} {us : List AV} (h : RPs S vs (u :: us)) : ∃ v vs', vs = v :: vs' ∧ RP S v u ∧ RPs S vs' us := by
  cases vs with
  | nil => simp [RPs] at h
  | cons v vs =>
    refine ⟨v, vs, rfl, ?_, by simpa using h.1, fun i x hx => ?_⟩
    · obtain ⟨y, hy, hh⟩ := h.2 0 u (by simp); simp at hy; subst hy; exact hh
    · obtain ⟨y, hy, hh⟩ := h.2 (i + 1) x (by simpa using hx); exact ⟨y, by simpa using hy, hh⟩
theorem RVs.nil_inv {S : Store} {ρ : Env} {vs : List Value} (h : RVs S ρ vs []) : vs = [] := by
  have := h.1; simpa using this

/-- Blocks of the call's own. 'row': a slice's row, from its head; what lies beyond its length is not known. 'gone': a row that has become known for good. -/
inductive Blk : Type 1
  | box (t : TypeId) (cells : List AV)
  | row (t : TypeId) {α : Type} (d : α) (enc : α → List AV) (l : List α)
  | gone {α : Type} (d : α) (enc : α → List AV) (l : List α)
  | dead

abbrev Mem := Nat → Option Blk
def Mem.set (M : Mem) (ℓ : Nat) (B : Blk) : Mem := fun x => match Nat.beq x ℓ with | true => some B | false => M x
def Mem.none : Mem := fun _ => Option.none
theorem Mem.set_eq (M : Mem) (ℓ : Nat) (B : Blk) : M.set ℓ B ℓ = some B := by simp [Mem.set]
theorem Mem.set_ne (M : Mem) {ℓ x : Nat} (B : Blk) (h : x ≠ ℓ) : M.set ℓ B x = M x := by
  have : Nat.beq x ℓ = false := by rw [Bool.eq_false_iff]; intro hh; exact h (Nat.eq_of_beq_eq_true hh)
  simp [Mem.set, this]
theorem Mem.set_comm (M : Mem) {ℓ ℓ' : Nat} (B B' : Blk) (h : ℓ ≠ ℓ') : (M.set ℓ B).set ℓ' B' = (M.set ℓ' B').set ℓ B := by
  funext x
  by_cases h1 : x = ℓ
  · subst h1; rw [Mem.set_ne _ _ h, Mem.set_eq, Mem.set_eq]
  · by_cases h2 : x = ℓ'
    · subst h2; rw [Mem.set_eq, Mem.set_ne _ _ h1, Mem.set_eq]
    · rw [Mem.set_ne _ _ h2, Mem.set_ne _ _ h1, Mem.set_ne _ _ h1, Mem.set_ne _ _ h2]

def Blk.live : Blk → Lab → Prop
  | .box _ _, _ => True
  | .row _ _ _ _, b => b.nil = false
  | _, _ => False

def BlkRep (S F : Store) (ρ : Env) (w : World) (b : Lab) : Blk → Prop
  | .box t cells => ∃ vs : Array Value, w.heap[b.blk]? = some (.cells vs t (0, 0)) ∧ RVs S ρ vs.toList cells ∧ S b.blk = none ∧ F b.blk = none
  | .row t _ enc l => b.len = l.length ∧ (∀ a ∈ l, (enc a).length = b.sz ∧ allOne (enc a) = true) ∧ ((b.nil = true ∧ l = [] ∧ b.cap = 0) ∨ (b.nil = false ∧ l.length ≤ b.cap ∧
      ∃ vs : Array Value, w.heap[b.blk]? = some (.cells vs t (0, 0)) ∧ vs.size = b.cap * b.sz ∧
        (∀ i a j u, l[i]? = some a → (enc a)[j]? = some u → ∃ v, vs[i * b.sz + j]? = some v ∧ RP S v u) ∧ S b.blk = none ∧ F b.blk = none))
  | .gone d enc l => b.len = l.length ∧ RP S b.hdr (.sl d enc l)
  | .dead => True

/-- The world holds what is known: for good (S), by others (F), and by label (M). -/
structure RepM (S F : Store) (ρ : Env) (M : Mem) (w : World) : Prop where
  sw : S.inW w
  fw : F.inW w
  sf : ∀ b, S b = none ∨ F b = none
  dom : ∀ ℓ b, ρ ℓ = some b → M ℓ ≠ none
  blk : ∀ ℓ B, M ℓ = some B → ∃ b, ρ ℓ = some b ∧ BlkRep S F ρ w b B
  inj : ∀ ℓ ℓ' B B' b b', M ℓ = some B → M ℓ' = some B' → ρ ℓ = some b → ρ ℓ' = some b' → B.live b → B'.live b' → ℓ ≠ ℓ' → b.blk ≠ b'.blk

/-- How a world may go on: the streams are as they were, no block has gone, nothing is newly frozen. -/
structure Wle (w w' : World) : Prop where
  os : w'.os = w.os
  output : w'.output = w.output
  tape : w'.tape = w.tape
  size : w.heap.size ≤ w'.heap.size
  fz : ∀ a, w'.frozen? a = w.frozen? a
theorem Wle.refl (w : World) : Wle w w := ⟨rfl, rfl, rfl, Nat.le_refl _, fun _ => rfl⟩
theorem Wle.trans {a b c : World} (h : Wle a b) (k : Wle b c) : Wle a c :=
  ⟨k.os.trans h.os, k.output.trans h.output, k.tape.trans h.tape, Nat.le_trans h.size k.size, fun x => (k.fz x).trans (h.fz x)⟩
theorem Wle.drawn (w : World) (n : Nat) : Wle w { w with drawn := n } := ⟨rfl, rfl, rfl, Nat.le_refl _, fun _ => rfl⟩

/-- The frame of an activation. -/
def RepF (S : Store) (ρ : Env) (a : Act) (fr : List AV) : Prop := RVs S ρ a.tmps.toList fr ∧ a.defers = []

end Go.Proofs.Ytihligeggkpolaa
