/-
  The model's run of an operation that changes no memory gives what the abstract value says.
-/
import Derived.Test.YtihligeggkpolaaSymB
namespace Go.Proofs.Ytihligeggkpolaa

section inv
variable {S : Store} {ρ : Env} {v : Value}
theorem RV.int_inv {k : IntKind} {n : Int} (h : RV S ρ v (.int k n)) : v = .int k n := by cases h with | p h => cases h; rfl
theorem RV.bool_inv {b : Bool} (h : RV S ρ v (.bool b)) : v = .bool b := by cases h with | p h => cases h; rfl
theorem RV.str_inv {s : ByteArray} (h : RV S ρ v (.str s)) : v = .string s := by cases h with | p h => cases h; rfl
theorem RV.nilsl_inv (h : RV S ρ v .nilsl) : v = .slice none 0 0 := by cases h with | p h => cases h; rfl
theorem RV.val_inv {u : Value} (h : RV S ρ v (.val u)) : v = u := by cases h with | p h => cases h; rfl
theorem RV.sl_inv {α : Type} {d : α} {enc : α → List AV} {l : List α} (h : RV S ρ v (.sl d enc l)) : RP S v (.sl d enc l) := by cases h with | p h => exact h
theorem RV.pd_inv {c : List AV} (h : RV S ρ v (.pd c)) : RP S v (.pd c) := by cases h with | p h => exact h
theorem RV.ptr_inv {ℓ o : Nat} (h : RV S ρ v (.ptr ℓ o)) : ∃ b, ρ ℓ = some b ∧ v = .pointer (some ⟨b.blk, o, none⟩) := by
  cases h with
  | p h => cases h
  | ptr _ _ b hb => exact ⟨b, hb, rfl⟩
theorem RV.row_inv {ℓ n sz : Nat} (h : RV S ρ v (.row ℓ n sz)) : ∃ b, ρ ℓ = some b ∧ b.len = n ∧ b.sz = sz ∧ (b.nil = true → b.len = 0) ∧ v = b.hdr := by
  cases h with
  | p h => cases h
  | row _ _ _ b hb hn hs hz => exact ⟨b, hb, hn, hs, hz, rfl⟩
theorem RV.rel_inv {ℓ i o : Nat} (h : RV S ρ v (.rel ℓ i o)) : ∃ b, ρ ℓ = some b ∧ i < b.len ∧ v = .pointer (some ⟨b.blk, i * b.sz + o, none⟩) := by
  cases h with
  | p h => cases h
  | rel _ _ _ b hb hn => exact ⟨b, hb, hn, rfl⟩
theorem rvs_of {cs : List AV} {vs : Array Value} (hs : vs.size = cs.length) (vals : Nat → Value) (he : ∀ i, i < vs.size → vs[i]? = some (vals i)) (hv : ∀ (j : Nat) u, cs[j]? = some u → RV S ρ (vals j) u) : RVs S ρ vs.toList cs :=
  ⟨by simpa using hs, fun i u hu => ⟨vals i, by
    have hi : i < vs.size := by rw [hs]; exact (List.getElem?_eq_some_iff.1 hu).1
    simpa using he i hi, hv i u hu⟩⟩
theorem RV.agg_inv {cs : List AV} (h : RV S ρ v (.agg cs)) : ∃ vs, v = .agg vs ∧ RVs S ρ vs.toList cs := by
  cases h with
  | p h => cases h with | agg _ vs hs vals he hv => exact ⟨vs, rfl, rvs_of hs vals he fun j u hu => .p (hv j u hu)⟩
  | agg _ vs hs vals he hv => exact ⟨vs, rfl, rvs_of hs vals he hv⟩
theorem RV.tup_inv {cs : List AV} (h : RV S ρ v (.tup cs)) : ∃ vs, v = .tuple vs ∧ RVs S ρ vs.toList cs := by
  cases h with
  | p h => cases h with | tup _ vs hs vals he hv => exact ⟨vs, rfl, rvs_of hs vals he fun j u hu => .p (hv j u hu)⟩
  | tup _ vs hs vals he hv => exact ⟨vs, rfl, rvs_of hs vals he hv⟩
theorem RV.fn_inv {f : FuncId} {cs : List AV} (h : RV S ρ v (.fn f cs)) : ∃ vs, v = .func (.func f) #[] vs ∧ RVs S ρ vs.toList cs := by
  cases h with
  | p h => cases h with | fn _ _ vs hs vals he hv => exact ⟨vs, rfl, rvs_of hs vals he fun j u hu => .p (hv j u hu)⟩
  | fn _ _ vs hs vals he hv => exact ⟨vs, rfl, rvs_of hs vals he hv⟩
theorem RV.mk_of {vs : List Value} {cs : List AV} (h : RVs S ρ vs cs) : ∃ vals : Nat → Value, (∀ i, i < vs.toArray.size → vs.toArray[i]? = some (vals i)) ∧ ∀ (j : Nat) u, cs[j]? = some u → RV S ρ (vals j) u :=
  ⟨fun i => vs.getD i undef, fun i hi => by simp at hi; simp [hi], fun j u hu => by
    obtain ⟨x, hx, hr⟩ := h.2 j u hu
    simpa [hx] using hr⟩
theorem RV.agg_mk {vs : List Value} {cs : List AV} (h : RVs S ρ vs cs) : RV S ρ (.agg vs.toArray) (.agg cs) := by
  obtain ⟨vals, he, hv⟩ := RV.mk_of h
  exact .agg cs _ (by simpa using h.1) vals he hv
theorem RV.tup_mk {vs : List Value} {cs : List AV} (h : RVs S ρ vs cs) : RV S ρ (.tuple vs.toArray) (.tup cs) := by
  obtain ⟨vals, he, hv⟩ := RV.mk_of h
  exact .tup cs _ (by simpa using h.1) vals he hv
theorem RV.fn_mk {vs : List Value} {cs : List AV} (f : FuncId) (h : RVs S ρ vs cs) : RV S ρ (.func (.func f) #[] vs.toArray) (.fn f cs) := by
  obtain ⟨vals, he, hv⟩ := RV.mk_of h
  exact .fn f cs _ (by simpa using h.1) vals he hv
end inv

section lists
variable {S : Store} {ρ : Env}
theorem RVs.drop {vs : List Value} {us : List AV} (h : RVs S ρ vs us) (n : Nat) : RVs S ρ (vs.drop n) (us.drop n) :=
  ⟨by simp [h.1], fun i u hu => by
    rw [List.getElem?_drop] at hu
    obtain ⟨v, e, hv⟩ := h.2 _ u hu
    exact ⟨v, by rw [List.getElem?_drop]; exact e, hv⟩⟩
theorem RVs.take {vs : List Value} {us : List AV} (h : RVs S ρ vs us) (n : Nat) : RVs S ρ (vs.take n) (us.take n) :=
  ⟨by simp [h.1], fun i u hu => by
    rw [List.getElem?_take] at hu
    split at hu
    · rename_i hi
      obtain ⟨v, e, hv⟩ := h.2 _ u hu
      exact ⟨v, by rw [List.getElem?_take, if_pos hi]; exact e, hv⟩
    · simp at hu⟩
theorem RVs.append {vs vs' : List Value} {us us' : List AV} (h : RVs S ρ vs us) (h' : RVs S ρ vs' us') : RVs S ρ (vs ++ vs') (us ++ us') :=
  ⟨by simp [h.1, h'.1], fun i u hu => by
    by_cases hi : i < us.length
    · rw [List.getElem?_append_left hi] at hu
      obtain ⟨v, e, hv⟩ := h.2 _ u hu
      exact ⟨v, by rw [List.getElem?_append_left (by rw [h.1]; exact hi)]; exact e, hv⟩
    · rw [List.getElem?_append_right (by omega)] at hu
      obtain ⟨v, e, hv⟩ := h'.2 _ u hu
      exact ⟨v, by rw [List.getElem?_append_right (by rw [h.1]; omega), h.1]; exact e, hv⟩⟩
end lists

def opnds : Op → List Operand
  | .move x | .assign x | .box _ x | .load _ x | .nilCheck x | .unOp _ _ x | .convert _ _ x | .fieldAddr _ x _ | .field _ x _ | .extract x _ => [x]
  | .pick c a b => [c, a, b]
  | .binOp _ _ x y _ | .store _ x y | .makeSlice _ x y | .indexAddr _ x y | .index _ x y => [x, y]
  | .build _ ps | .buildSlice _ _ ps => ps.toList.map (·.2)
  | .makeFunc _ _ cs => cs.toList
  | .slice _ x lo hi _ => x :: (lo.toList ++ hi.toList)
  | .call c => match c.callee with
    | .value f => f :: c.args.toList
    | _ => c.args.toList
  | _ => []

/-- the cells that a value takes, if it can be stored -/
def cellsA : AV → Option (List AV)
  | .agg cs => some cs
  | .top | .tup _ => none
  | .val v => match oneV v with | true => some [.val v] | false => none
  | u => some [u]
def splice (cells : List AV) (o : Nat) (cs : List AV) : List AV := cells.take o ++ (cs ++ cells.drop (o + cs.length))
def fillA (tt : TT) (fs : List (Nat × TypeId)) : List Nat → List AV → List AV → Option (List AV)
  | [], [], cells => some cells
  | i :: is, u :: us, cells => match nth fs i with
    | some (o, ft) => match cellsA u, tt.find ft with
      | some cs, some x => match Nat.beq cs.length x.size, Nat.ble (o + cs.length) cells.length with
        | true, true => fillA tt fs is us (splice cells o cs)
        | _, _ => none
      | _, _ => none
    | none => none
  | _, _, _ => none
def constA : Value → AV
  | .int k n => .int k n
  | .bool b => .bool b
  | .string s => .str s
  | .slice none 0 0 => .nilsl
  | v => .val v
def evBuild (tt : TT) (t : TypeId) (is : List Nat) (us : List AV) : Rs :=
  match tt.find t with
  | some ⟨_, _, .struct fs, z⟩ => match fillA tt fs is us (z.map constA) with
    | some cs => .val (.agg cs)
    | none => .no
  | _ => .no

def evN (tt : TT) (op : Op) (us : List AV) : Rs :=
  match op with
  | .move _ => match us with | [u] => .val u | _ => .no
  | .assign _ => match us with | [u] => .val u | _ => .no
  | .pick _ _ _ => match us with | [.bool true, a, _] => .val a | [.bool false, _, b] => .val b | _ => .no
  | .binOp o t _ _ _ => match us with | [x, y] => evBin tt o t x y | _ => .no
  | .unOp o _ _ => match us with | [x] => evUn o x | _ => .no
  | .convert s d _ => match us, tt.find s with | [x], some _ => evConv tt d x | _, _ => .no
  | .fieldAddr s _ f => match us with | [x] => evFieldAddr tt s f x | _ => .no
  | .field s _ f => match us with | [x] => evField tt s f x | _ => .no
  | .indexAddr t _ _ => match us with | [x, i] => evIndexAddr tt t x i | _ => .no
  | .index t _ _ => match us with | [x, i] => evIndex tt t x i | _ => .no
  | .nilCheck _ => match us with | [x] => evNilCheck x | _ => .no
  | .extract _ i => match us with | [x] => evExtract i x | _ => .no
  | .slice t _ lo hi mx => match mx with
    | some _ => .no
    | none => match lo, hi, us with
      | none, none, [x] => evSlice tt t x none none
      | some _, none, [x, a] => evSlice tt t x (some a) none
      | none, some _, [x, b] => evSlice tt t x none (some b)
      | some _, some _, [x, a, b] => evSlice tt t x (some a) (some b)
      | _, _, _ => .no
  | .build t ps => evBuild tt t (ps.toList.map (·.1)) us
  | .makeFunc (.func f) fst _ => match fst.toList with | [] => .val (.fn f us) | _ => .no
  | .call c => match c.callee with
    | .builtin .len => match c.argTypes.toList, us with | [t], [x] => evLen tt t x | _, _ => .no
    | .builtin .max => match us with | [.int k a, .int _ b] => .val (.int k (if b > a then b else a)) | _ => .no
    | .builtin .min => match us with | [.int k a, .int _ b] => .val (.int k (if b < a then b else a)) | _ => .no
    | _ => .no
  | _ => .no

/-- a load -/
def evLoad (tt : TT) (t : TypeId) (M : Mem) : AV → Rs
  | .pd cells => evPart tt t cells
  | .ptr ℓ o => match M ℓ with
    | some (.box _ cells) => evPart tt t (cells.drop o)
    | _ => .no
  | .rel ℓ i o => match M ℓ with
    | some (.row _ d enc l) => evPart tt t ((enc (l.getD i d)).drop o)
    | _ => .no
  | _ => .no

def evR (tt : TT) (op : Op) (us : List AV) (M : Mem) : Rs :=
  match op with
  | .load t _ => match us with | [x] => evLoad tt t M x | _ => .no
  | op => evN tt op us

def RsOk (S : Store) (ρ : Env) (P : Program) (w : World) (m : Sem Next) : Rs → Prop
  | .no => True
  | .val u => ∃ v, m.run P w = .ok (.value v) w ∧ RV S ρ v u
  | .need c u => c → ∃ v, m.run P w = .ok (.value v) w ∧ RV S ρ v u
  | .arith c k n => c → m.run P w = .ok (.value (.int k (k.wrap n))) w
  | .cmp p i => m.run P w = .ok (.value (.bool (@decide p i))) w

end Go.Proofs.Ytihligeggkpolaa
