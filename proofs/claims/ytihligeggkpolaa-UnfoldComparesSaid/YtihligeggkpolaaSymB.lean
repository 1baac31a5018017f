/-
  The value of an operation that changes no memory, on abstract values, and that the model's own run agrees with it.
-/
import Derived.Test.YtihligeggkpolaaSymA
import Derived.WalkKit
namespace Go.Proofs.Ytihligeggkpolaa

/-! ### A table of the program's types -/
inductive TK
  | int (k : IntKind) | bool | string | slice (e : TypeId) | struct (fs : List (Nat × TypeId)) | array (n : Nat) (e : TypeId) | ptr (e : TypeId) | func | map (k e : TypeId) | other
structure TI where
  size : Nat
  bytes : Nat
  kind : TK
  zero : List Value
abbrev TT := List (Nat × TI)
def TT.find : TT → Nat → Option TI
  | [], _ => none
  | (u, i) :: r, t => match Nat.beq u t with | true => some i | false => TT.find r t
def TK.isAgg : TK → Bool
  | .struct _ | .array _ _ => true
  | _ => false

def litEq : Value → Value → Bool
  | .bool a, .bool b => a == b
  | .int k n, .int k' n' => decide (k = k') && decide (n = n')
  | .string a, .string b => a.data.toList == b.data.toList
  | .pointer none, .pointer none => true
  | .slice none 0 0, .slice none 0 0 => true
  | .map none, .map none => true
  | .nilFunc, .nilFunc => true
  | .nilIface, .nilIface => true
  | _, _ => false
theorem litEq_eq {a b : Value} (h : litEq a b = true) : a = b := by
  unfold litEq at h
  split at h <;> simp_all
  rename_i s t
  cases s with | mk a => cases t with | mk b => simp_all

def litsEq : List Value → List Value → Bool
  | [], [] => true
  | a :: r, b :: s => litEq a b && litsEq r s
  | _, _ => false
theorem litsEq_eq : ∀ {a b : List Value}, litsEq a b = true → a = b
  | [], [], _ => rfl
  | a :: r, b :: s, h => by
    simp only [litsEq, Bool.and_eq_true] at h
    rw [litEq_eq h.1, litsEq_eq h.2]
  | [], _ :: _, h => by simp [litsEq] at h
  | _ :: _, [], h => by simp [litsEq] at h

def kindB (P : Program) : Option TypeDesc → TK → Bool
  | some (.int k), .int k' => decide (k = k')
  | some .bool, .bool => true
  | some .string, .string => true
  | some (.slice e), .slice e' => decide (e = e')
  | some (.struct fs), .struct gs => decide (fs.toList.map (fun f => (f.offset, f.type)) = gs) && fs.toList.all fun f => !(decide (P.cellsOf f.type = 0)) && (P.info? f.type).isSome
  | some (.array n e), .array n' e' => decide (n = n') && decide (e = e')
  | some (.pointer e), .ptr e' => decide (e = e')
  | some (.func _ _ _), .func => true
  | some (.map k e), .map k' e' => decide (k = k') && decide (e = e')
  | some (.interface _), .other => true
  | some (.tuple _), .other => true
  | _, _ => false
def aggB : Value → Bool
  | .agg _ => true
  | _ => false
def entryB (P : Program) (t : TypeId) (i : TI) : Bool :=
  match P.info? t with
  | some x => decide (x.size = i.size) && decide (x.bytes = i.bytes) && (match x.zero with | some z => litsEq z.cells.toList i.zero && (aggB z == i.kind.isAgg) && decide (i.zero.length = i.size) | none => false) && kindB P (P.underlying t) i.kind
  | none => false
def TOkB (P : Program) (tt : TT) : Bool := tt.all fun e => entryB P e.1 e.2

theorem TT.find_mem {tt : TT} {t : TypeId} {i : TI} (h : tt.find t = some i) : (t, i) ∈ tt := by
  induction tt with
  | nil => simp [TT.find] at h
  | cons e r ih =>
    obtain ⟨u, j⟩ := e
    simp only [TT.find] at h
    split at h
    · rename_i hu
      have := Nat.eq_of_beq_eq_true hu
      subst this
      injection h with h; subst h; exact List.mem_cons_self
    · exact List.mem_cons_of_mem _ (ih h)

section
variable {P : Program} {tt : TT}
theorem TOk.entry (hT : TOkB P tt = true) {t : TypeId} {i : TI} (h : tt.find t = some i) : entryB P t i = true :=
  (List.all_eq_true.1 hT) _ (TT.find_mem h)
theorem TOk.info (hT : TOkB P tt = true) {t : TypeId} {i : TI} (h : tt.find t = some i) :
    ∃ x z, P.info? t = some x ∧ x.size = i.size ∧ x.bytes = i.bytes ∧ x.zero = some z ∧ z.cells.toList = i.zero ∧ aggB z = i.kind.isAgg ∧ i.zero.length = i.size := by
  have := TOk.entry hT h
  unfold entryB at this
  split at this
  · rename_i x hx
    simp only [Bool.and_eq_true, decide_eq_true_eq] at this
    obtain ⟨⟨⟨h1, h2⟩, h3⟩, _⟩ := this
    split at h3
    · rename_i z hz
      simp only [Bool.and_eq_true, beq_iff_eq, decide_eq_true_eq] at h3
      exact ⟨x, z, hx, h1, h2, hz, litsEq_eq h3.1.1, h3.1.2, h3.2⟩
    · simp at h3
  · simp at this
theorem TOk.kind (hT : TOkB P tt = true) {t : TypeId} {i : TI} (h : tt.find t = some i) : kindB P (P.underlying t) i.kind = true := by
  have := TOk.entry hT h
  unfold entryB at this
  split at this
  · simp only [Bool.and_eq_true] at this; exact this.2
  · simp at this
theorem TOk.slice (hT : TOkB P tt = true) {t e : TypeId} {a b : Nat} {z : List Value} (h : tt.find t = some ⟨a, b, .slice e, z⟩) : P.underlying t = some (.slice e) := by
  have := TOk.kind hT h
  unfold kindB at this
  split at this <;> simp_all
theorem TOk.int (hT : TOkB P tt = true) {t : TypeId} {k : IntKind} {a b : Nat} {z : List Value} (h : tt.find t = some ⟨a, b, .int k, z⟩) : P.underlying t = some (.int k) := by
  have := TOk.kind hT h
  unfold kindB at this
  split at this <;> simp_all
theorem TOk.bool (hT : TOkB P tt = true) {t : TypeId} {a b : Nat} {z : List Value} (h : tt.find t = some ⟨a, b, .bool, z⟩) : P.underlying t = some .bool := by
  have := TOk.kind hT h
  unfold kindB at this
  split at this <;> simp_all
theorem TOk.string (hT : TOkB P tt = true) {t : TypeId} {a b : Nat} {z : List Value} (h : tt.find t = some ⟨a, b, .string, z⟩) : P.underlying t = some .string := by
  have := TOk.kind hT h
  unfold kindB at this
  split at this <;> simp_all
theorem TOk.struct (hT : TOkB P tt = true) {t : TypeId} {gs : List (Nat × TypeId)} {a b : Nat} {z : List Value} (h : tt.find t = some ⟨a, b, .struct gs, z⟩) :
    ∃ fs, P.underlying t = some (.struct fs) ∧ fs.toList.map (fun f => (f.offset, f.type)) = gs ∧ ∀ f ∈ fs.toList, P.cellsOf f.type ≠ 0 ∧ ∃ x, P.info? f.type = some x := by
  have := TOk.kind hT h
  cases hu : P.underlying t with
  | none => rw [hu] at this; simp [kindB] at this
  | some d =>
    rw [hu] at this
    cases d with
    | struct fs =>
      simp only [kindB, Bool.and_eq_true, decide_eq_true_eq, List.all_eq_true, Bool.not_eq_true', decide_eq_false_iff_not] at this
      exact ⟨fs, rfl, this.1, fun f hf => ⟨(this.2 f hf).1, Option.isSome_iff_exists.1 (this.2 f hf).2⟩⟩
    | _ => simp [kindB] at this
theorem TOk.agg (hT : TOkB P tt = true) {t : TypeId} {i : TI} (h : tt.find t = some i) (w : World) : (isAgg t).run P w = .ok i.kind.isAgg w := by
  have := TOk.kind hT h
  unfold kindB at this
  unfold isAgg
  split at this <;> simp_all [TK.isAgg, run_underlying]
theorem TOk.size (hT : TOkB P tt = true) {t : TypeId} {i : TI} (h : tt.find t = some i) (w : World) : (Go.sizeOf t).run P w = .ok i.size w := by
  obtain ⟨x, z, hx, h1, _⟩ := TOk.info hT h
  simp [Go.sizeOf, typeInfo, hx, h1]
end

/-! ### Results of an operation -/
inductive Rs : Type 1
  | no
  | val (u : AV)
  | need (c : Prop) (u : AV)
  | arith (c : Prop) (k : IntKind) (n : Int)
  | cmp (p : Prop) (i : Decidable p)

def kn : IntKind → Nat
  | .i8 => 0 | .i16 => 1 | .i32 => 2 | .i64 => 3 | .u8 => 4 | .u16 => 5 | .u32 => 6 | .u64 => 7
theorem kn_inj {a b : IntKind} (h : Nat.beq (kn a) (kn b) = true) : a = b := by
  cases a <;> cases b <;> first | rfl | simp [kn] at h

def evInt (op : BinOp) (k : IntKind) (a b : Int) : Rs :=
  match op with
  | .add => .arith True k (a + b)
  | .sub => .arith True k (a - b)
  | .mul => .arith True k (a * b)
  | .quo => .arith (b ≠ 0) k (a.tdiv b)
  | .rem => .need (b ≠ 0) (.int k (a.tmod b))
  | .eql => .cmp (a = b) inferInstance
  | .neq => .cmp (a ≠ b) inferInstance
  | .lss => .cmp (a < b) inferInstance
  | .leq => .cmp (a ≤ b) inferInstance
  | .gtr => .cmp (b < a) inferInstance
  | .geq => .cmp (b ≤ a) inferInstance
  | _ => .no
def evNil (neg : Bool) : AV → Rs
  | .nilsl => .val (.bool (!neg))
  | .sl _ _ l => .need (l ≠ []) (.bool neg)
  | .row _ n _ => .need (0 < n) (.bool neg)
  | _ => .no
def isSlice (tt : TT) (t : TypeId) : Bool :=
  match tt.find t with
  | some ⟨_, _, .slice _, _⟩ => true
  | _ => false
def isBool (tt : TT) (t : TypeId) : Bool :=
  match tt.find t with
  | some ⟨_, _, .bool, _⟩ => true
  | _ => false
def bEq : Bool → Bool → Bool
  | true, b => b
  | false, b => !b
def evBin (tt : TT) (op : BinOp) (t : TypeId) : AV → AV → Rs
  | .int k a, .int k' b => match op with
    | .shr => .need (0 ≤ b) (.int k (a.fdiv (2 ^ min b.toNat k.bits)))
    | .shl => .arith (0 ≤ b) k (a * 2 ^ min b.toNat k.bits)
    | op => match Nat.beq (kn k) (kn k') with | true => evInt op k a b | false => .no
  | .str a, .str b => match op with
    | .eql => .cmp (a = b) inferInstance
    | .neq => .cmp (a ≠ b) inferInstance
    | _ => .no
  | .bool a, .bool b => match op, isBool tt t with
    | .eql, true => .val (.bool (bEq a b))
    | .neq, true => .val (.bool (!bEq a b))
    | _, _ => .no
  | x, .nilsl => match op, isSlice tt t with
    | .eql, true => evNil false x
    | .neq, true => evNil true x
    | _, _ => .no
  | _, _ => .no
def evUn : UnOp → AV → Rs
  | .not, .bool b => .val (.bool (!b))
  | .neg, .int k n => .arith True k (0 - n)
  | _, _ => .no
def evConv (tt : TT) (dst : TypeId) : AV → Rs
  | .int _ n => match tt.find dst with
    | some ⟨_, _, .int k, _⟩ => .arith True k n
    | _ => .no
  | _ => .no
def evLen (tt : TT) (t : TypeId) : AV → Rs
  | .sl _ _ l => match isSlice tt t with | true => .val (.int .i64 l.length) | false => .no
  | .row _ n _ => match isSlice tt t with | true => .val (.int .i64 n) | false => .no
  | .nilsl => match isSlice tt t with | true => .val (.int .i64 0) | false => .no
  | .str s => match tt.find t with
    | some ⟨_, _, .string, _⟩ => .val (.int .i64 s.size)
    | _ => .no
  | _ => .no
def nth : List (Nat × TypeId) → Nat → Option (Nat × TypeId)
  | [], _ => none
  | x :: _, 0 => some x
  | _ :: r, n + 1 => nth r n
theorem nth_eq : ∀ (l : List (Nat × TypeId)) (n : Nat), nth l n = l[n]?
  | [], n => by simp [nth]
  | x :: _, 0 => by simp [nth]
  | _ :: r, n + 1 => by simp [nth, nth_eq r n]
def evFieldAddr (tt : TT) (s : TypeId) (f : Nat) (x : AV) : Rs :=
  match tt.find s with
  | some ⟨_, _, .struct fs, _⟩ => match nth fs f with
    | some (o, ft) => match x with
      | .ptr ℓ off => .val (.ptr ℓ (off + o))
      | .rel ℓ i off => .val (.rel ℓ i (off + o))
      | .pd cells => .val (.pd (cells.drop o))
      | _ => .no
    | none => .no
  | _ => .no
/-- the part of some cells that a variable of type t takes -/
def evPart (tt : TT) (t : TypeId) (cells : List AV) : Rs :=
  match tt.find t with
  | some i => match i.kind.isAgg with
    | true => match Nat.ble i.size cells.length with
      | true => .val (.agg (cells.take i.size))
      | false => .no
    | false => match cells with
      | u :: _ => .val u
      | [] => .no
  | none => .no
def evField (tt : TT) (s : TypeId) (f : Nat) : AV → Rs
  | .agg cells => match tt.find s with
    | some ⟨_, _, .struct fs, _⟩ => match nth fs f with
      | some (o, ft) => evPart tt ft (cells.drop o)
      | none => .no
    | _ => .no
  | _ => .no
def evIndexAddr (tt : TT) (t : TypeId) : AV → AV → Rs
  | .sl d enc l, .int _ n => match tt.find t with
    | some ⟨_, _, .slice e, _⟩ => match tt.find e with
      | some i => match Nat.beq (enc (l.getD n.toNat d)).length i.size with
        | true => .need (0 ≤ n ∧ n < l.length) (.pd (enc (l.getD n.toNat d)))
        | false => .no
      | none => .no
    | _ => .no
  | .row ℓ m sz, .int _ n => match tt.find t with
    | some ⟨_, _, .slice e, _⟩ => match tt.find e with
      | some i => match Nat.beq sz i.size with
        | true => .need (0 ≤ n ∧ n < m) (.rel ℓ n.toNat 0)
        | false => .no
      | none => .no
    | _ => .no
  | _, _ => .no
def evIndex (tt : TT) (t : TypeId) : AV → AV → Rs
  | .str s, .int _ n => match tt.find t with
    | some ⟨_, _, .string, _⟩ => .need (0 ≤ n ∧ n < s.size) (.int .u8 (s.data.getD n.toNat 0).toNat)
    | _ => .no
  | _, _ => .no
def evNilCheck : AV → Rs
  | .ptr ℓ o => .val (.ptr ℓ o)
  | .rel ℓ i o => .val (.rel ℓ i o)
  | .pd c => .val (.pd c)
  | .fn f c => .val (.fn f c)
  | _ => .no
def evExtract (i : Nat) : AV → Rs
  | .tup vs => match vs[i]? with
    | some u => .val u
    | none => .no
  | _ => .no
/-- s[lo:hi] -/
def evSlice (tt : TT) (t : TypeId) (x : AV) (lo hi : Option AV) : Rs :=
  match tt.find t with
  | some ⟨_, _, .slice e, _⟩ => match tt.find e with
    | some i => match x with
      | .sl d enc l => match Nat.beq (enc (l.getD 0 d)).length i.size with
        | true => match lo, hi with
          | none, none => .val (.sl d enc l)
          | some (.int _ a), none => .need (0 ≤ a ∧ a ≤ l.length) (.sl d enc (l.drop a.toNat))
          | none, some (.int _ b) => .need (0 ≤ b ∧ b ≤ l.length) (.sl d enc (l.take b.toNat))
          | some (.int _ a), some (.int _ b) => .need (0 ≤ a ∧ a ≤ b ∧ b ≤ l.length) (.sl d enc ((l.take b.toNat).drop a.toNat))
          | _, _ => .no
        | false => .no
      | _ => .no
    | none => .no
  | _ => .no

end Go.Proofs.Ytihligeggkpolaa
