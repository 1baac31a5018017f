/-
  Operations that make or write memory, on abstract values: what they ask and what they leave.
-/
import Derived.Test.YtihligeggkpolaaSymG
namespace Go.Proofs.Ytihligeggkpolaa

/-! ### Places where the walk asks -/
structure needK (c : Prop) (k : Prop) : Prop where
  out : c ∧ k
theorem needK_iff {c : Prop} {k : Prop} : needK c k ↔ (c ∧ k) := ⟨fun h => h.out, fun h => ⟨h⟩⟩
structure cmpK (p : Prop) (i : Decidable p) (k : Bool → Prop) : Prop where
  out : k (@decide p i)
theorem cmpK_iff {p : Prop} {i : Decidable p} {k : Bool → Prop} : cmpK p i k ↔ (k (@decide p i)) := ⟨fun h => h.out, fun h => ⟨h⟩⟩
structure arithK (c : Prop) (k : IntKind) (n : Int) (K : Int → Prop) : Prop where
  out : c ∧ K (k.wrap n)
theorem arithK_iff {c : Prop} {k : IntKind} {n : Int} {K : Int → Prop} : arithK c k n K ↔ (c ∧ K (k.wrap n)) := ⟨fun h => h.out, fun h => ⟨h⟩⟩
theorem needI {c k : Prop} (h : c) (h' : k) : needK c k := by rw [needK_iff]; exact ⟨h, h'⟩
theorem cmpI {p : Prop} {i : Decidable p} {k : Bool → Prop} (h : p → k true) (h' : ¬ p → k false) : cmpK p i k := by
  rw [cmpK_iff]
  by_cases hp : p
  · rw [decide_eq_true hp]; exact h hp
  · rw [decide_eq_false hp]; exact h' hp
theorem cmpT {p : Prop} {i : Decidable p} {k : Bool → Prop} (hp : p) (h : k true) : cmpK p i k := cmpI (fun _ => h) (fun h' => absurd hp h')
theorem cmpF {p : Prop} {i : Decidable p} {k : Bool → Prop} (hp : ¬ p) (h : k false) : cmpK p i k := cmpI (fun h' => absurd h' hp) (fun _ => h)
theorem cmpD {p : Prop} {i : Decidable p} {k : Bool → Prop} (h : k (@decide p i)) : cmpK p i k := by rw [cmpK_iff]; exact h
theorem i64_wrap {n : Int} (h : -9223372036854775808 ≤ n ∧ n ≤ 9223372036854775807) : IntKind.i64.wrap n = n := IntWalk.i64_in n (by omega)
theorem arI {c : Prop} {n : Int} {K : Int → Prop} (hc : c) (h : -9223372036854775808 ≤ n ∧ n ≤ 9223372036854775807) (h' : K n) : arithK c .i64 n K := by
  rw [arithK_iff]; rw [i64_wrap h]; exact ⟨hc, h'⟩
theorem u64_wrap {n : Int} (h : 0 ≤ n ∧ n ≤ 18446744073709551615) : IntKind.u64.wrap n = n := by
  have e : IntKind.u64.wrap n = n % 18446744073709551616 := by simp [IntKind.wrap, IntKind.signed, IntKind.bits]
  rw [e]; omega
theorem u8_wrap {n : Int} (h : 0 ≤ n ∧ n ≤ 255) : IntKind.u8.wrap n = n := by
  have e : IntKind.u8.wrap n = n % 256 := by simp [IntKind.wrap, IntKind.signed, IntKind.bits]
  rw [e]; omega
theorem arU {c : Prop} {n : Int} {K : Int → Prop} (hc : c) (h : 0 ≤ n ∧ n ≤ 18446744073709551615) (h' : K n) : arithK c .u64 n K := by
  rw [arithK_iff, u64_wrap h]; exact ⟨hc, h'⟩
theorem arB {c : Prop} {n : Int} {K : Int → Prop} (hc : c) (h : 0 ≤ n ∧ n ≤ 255) (h' : K n) : arithK c .u8 n K := by
  rw [arithK_iff, u8_wrap h]; exact ⟨hc, h'⟩
theorem arW {c : Prop} {k : IntKind} {n : Int} {K : Int → Prop} (hc : c) (h' : K (k.wrap n)) : arithK c k n K := by rw [arithK_iff]; exact ⟨hc, h'⟩

def forceL : List AV → (List AV → Prop) → Prop
  | [], k => k []
  | u :: us, k => forceL us fun us' => k (u :: us')
theorem forceL_eq : ∀ (us : List AV) (k : List AV → Prop), forceL us k = k us
  | [], _ => rfl
  | u :: us, k => by rw [forceL, forceL_eq us]
def forceK : AV → (AV → Prop) → Prop
  | .agg cs, k => forceL cs fun cs' => k (.agg cs')
  | .pd cs, k => forceL cs fun cs' => k (.pd cs')
  | .tup cs, k => forceL cs fun cs' => k (.tup cs')
  | u, k => k u
theorem forceK_eq (u : AV) (k : AV → Prop) : forceK u k = k u := by
  cases u <;> simp [forceK, forceL_eq]

def rsK (r : Rs) (K : AV → Prop) : Prop :=
  match r with
  | .no => False
  | .val u => forceK u K
  | .need c u => needK c (forceK u K)
  | .arith c k n => arithK c k n fun m => K (.int k m)
  | .cmp p i => cmpK p i fun b => K (.bool b)
theorem rsK_mono {r : Rs} {K K' : AV → Prop} (h : rsK r K) (hk : ∀ u, K u → K' u) : rsK r K' := by
  cases r with
  | no => exact h
  | val u => simp only [rsK, forceK_eq] at *; exact hk _ h
  | need c u => simp only [rsK, forceK_eq] at *; simp only [needK_iff] at *; exact ⟨h.1, hk _ h.2⟩
  | arith c k n => simp only [rsK] at *; simp only [arithK_iff] at *; exact ⟨h.1, hk _ h.2⟩
  | cmp p i => simp only [rsK] at *; simp only [cmpK_iff] at *; exact hk _ h
theorem rsK_ex {r : Rs} {K : AV → Prop} (h : rsK r K) : ∃ u, rsK r (fun x => x = u) ∧ K u := by
  cases r with
  | no => exact h.elim
  | val u => simp only [rsK, forceK_eq] at *; exact ⟨u, rfl, h⟩
  | need c u => simp only [rsK, forceK_eq] at *; simp only [needK_iff] at *; exact ⟨u, ⟨h.1, rfl⟩, h.2⟩
  | arith c k n => simp only [rsK] at *; simp only [arithK_iff] at *; exact ⟨_, ⟨h.1, rfl⟩, h.2⟩
  | cmp p i => simp only [rsK] at *; simp only [cmpK_iff] at *; exact ⟨_, rfl, h⟩
theorem rsK_ok {S : Store} {ρ : Env} {P : Program} {w : World} {m : Sem Next} {r : Rs} {K : AV → Prop} (h : rsK r K) (hr : RsOk S ρ P w m r) : ∃ v u, m.run P w = .ok (.value v) w ∧ RV S ρ v u ∧ K u := by
  cases r with
  | no => exact h.elim
  | val u => simp only [rsK, forceK_eq] at h; obtain ⟨v, e, hv⟩ := hr; exact ⟨v, u, e, hv, h⟩
  | need c u => simp only [rsK, forceK_eq] at h; rw [needK_iff] at h; obtain ⟨v, e, hv⟩ := hr h.1; exact ⟨v, u, e, hv, h.2⟩
  | arith c k n => simp only [rsK] at h; rw [arithK_iff] at h; exact ⟨_, _, hr h.1, .p (.int _ _), h.2⟩
  | cmp p i => simp only [rsK] at h; rw [cmpK_iff] at h; exact ⟨_, _, hr, .p (.bool _), h⟩

/-! ### What may lie in a cell, and what stands for good -/
def persA : AV → Bool
  | .int _ _ | .bool _ | .str _ | .nilsl | .sl _ _ _ | .pd _ => true
  | .val v => oneV v
  | .fn _ [] => true
  | _ => false
def allPers : List AV → Bool
  | [] => true
  | u :: us => match persA u with | true => allPers us | false => false

section
variable {S F : Store} {ρ : Env} {M : Mem} {w : World}
theorem oneA_ok {u : AV} (h : oneA u = true) {v : Value} (hv : RV S ρ v u) : v.oneCell' = true := by
  have key : ∀ x : Value, oneV x = true → x.oneCell' = true := by intro x hx; cases x <;> simp_all [oneV, Value.oneCell']
  cases u with
  | top => simp [oneA] at h
  | agg _ => simp [oneA] at h
  | tup _ => simp [oneA] at h
  | val x => rw [hv.val_inv]; exact key _ h
  | int k n => rw [hv.int_inv]; rfl
  | bool b => rw [hv.bool_inv]; rfl
  | str b => rw [hv.str_inv]; rfl
  | nilsl => rw [hv.nilsl_inv]; rfl
  | sl d enc l => obtain ⟨b, c, rfl, _⟩ := sl_form hv.sl_inv; rfl
  | pd c => cases hv.pd_inv; rfl
  | fn f c => obtain ⟨vs, rfl, _⟩ := hv.fn_inv; rfl
  | ptr a b => obtain ⟨b, _, rfl⟩ := hv.ptr_inv; rfl
  | row a b c => obtain ⟨b, _, _, _, _, rfl⟩ := hv.row_inv; rfl
  | rel a b c => obtain ⟨b, _, _, rfl⟩ := hv.rel_inv; rfl
theorem allOne_ok : ∀ {us : List AV} {vs : List Value}, allOne us = true → RVs S ρ vs us → ∀ v ∈ vs, v.oneCell' = true
  | [], vs, _, hv => by rw [hv.nil_inv]; simp
  | u :: us, vs, h, hv => by
    obtain ⟨x, xs, rfl, hx, hxs⟩ := hv.cons_inv
    simp only [allOne] at h
    split at h
    · rename_i ho
      intro v hm
      rcases List.mem_cons.1 hm with rfl | hm
      · exact oneA_ok ho hx
      · exact allOne_ok h hxs v hm
    · simp at h
theorem persA_ok {u : AV} (h : persA u = true) {v : Value} (hv : RV S ρ v u) : RP S v u ∧ oneA u = true := by
  cases u with
  | val x => have := hv.val_inv; subst this; exact ⟨.val _, h⟩
  | int k n => rw [hv.int_inv]; exact ⟨.int _ _, rfl⟩
  | bool b => rw [hv.bool_inv]; exact ⟨.bool _, rfl⟩
  | str b => rw [hv.str_inv]; exact ⟨.str _, rfl⟩
  | nilsl => rw [hv.nilsl_inv]; exact ⟨.nilsl, rfl⟩
  | sl d enc l => exact ⟨hv.sl_inv, rfl⟩
  | pd c => exact ⟨hv.pd_inv, rfl⟩
  | fn f c =>
    cases c with
    | cons _ _ => simp [persA] at h
    | nil =>
      obtain ⟨vs, rfl, hvs⟩ := hv.fn_inv
      have : vs = #[] := by have := hvs.1; simpa using this
      subst this
      exact ⟨.fn f [] #[] rfl (fun _ => undef) (by simp) (by simp), rfl⟩
  | _ => simp [persA] at h
theorem allPers_ok : ∀ {us : List AV} {vs : List Value}, allPers us = true → RVs S ρ vs us → RPs S vs us ∧ allOne us = true
  | [], vs, _, hv => by rw [hv.nil_inv]; exact ⟨RPs.nil _, rfl⟩
  | u :: us, vs, h, hv => by
    obtain ⟨x, xs, rfl, hx, hxs⟩ := hv.cons_inv
    simp only [allPers] at h
    split at h
    · rename_i ho
      obtain ⟨h1, h2⟩ := persA_ok ho hx
      obtain ⟨h3, h4⟩ := allPers_ok h hxs
      exact ⟨RPs.cons h1 h3, by simp only [allOne, h2, h4]⟩
    · simp at h

/-- rows among the values become known for good -/
def leakK : List AV → Mem → (List AV → Mem → Prop) → Prop
  | [], M, K => K [] M
  | u :: us, M, K => match u with
    | .row ℓ _ _ => match M ℓ with
      | some (.row _ d enc l) => leakK us (M.set ℓ (.gone d enc l)) fun us' M' => K (.sl d enc l :: us') M'
      | some (.gone d enc l) => leakK us M fun us' M' => K (.sl d enc l :: us') M'
      | _ => False
    | u => leakK us M fun us' M' => K (u :: us') M'
theorem leakK_ok : ∀ (us : List AV) (vs : List Value) (S : Store) (M : Mem) (K : List AV → Mem → Prop), leakK us M K → RVs S ρ vs us → RepM S F ρ M w →
    ∃ us' M' S', K us' M' ∧ S.le S' ∧ RVs S' ρ vs us' ∧ RepM S' F ρ M' w ∧ (∀ x B, M x = some B → ∃ B', M' x = some B')
  | [], vs, S, M, K, h, hv, hM => ⟨[], M, S, h, Store.le_refl _, hv, hM, fun x B hx => ⟨B, hx⟩⟩
  | u :: us, vs, S, M, K, h, hv, hM => by
    obtain ⟨x, xs, rfl, hx, hxs⟩ := hv.cons_inv
    simp only [leakK] at h
    split at h
    · rename_i ℓ n sz
      split at h
      · rename_i t α d enc l hl
        obtain ⟨S1, b, hle, hb, hM1, hr⟩ := hM.leak hl
        obtain ⟨b', hb', _, _, _, rfl⟩ := hx.row_inv
        rw [hb] at hb'; cases hb'
        obtain ⟨us', M', S', hK, hle', hvs', hM', hdom⟩ := leakK_ok us xs S1 _ _ h (hxs.mono hle (Env.le_refl _)) hM1
        refine ⟨_, M', S', hK, Store.le_trans hle hle', RVs.cons (.p (hr.mono hle')) hvs', hM', fun y B hy => ?_⟩
        by_cases e : y = ℓ
        · subst e; exact hdom _ _ (Mem.set_eq _ _ _)
        · exact hdom y B (by rw [Mem.set_ne _ _ e]; exact hy)
      · rename_i α d enc l hl
        obtain ⟨b, hb, _, hr⟩ := hM.blk _ _ hl
        obtain ⟨b', hb', _, _, _, rfl⟩ := hx.row_inv
        rw [hb] at hb'; cases hb'
        obtain ⟨us', M', S', hK, hle', hvs', hM', hdom⟩ := leakK_ok us xs S _ _ h hxs hM
        exact ⟨_, M', S', hK, hle', RVs.cons (.p (hr.mono hle')) hvs', hM', hdom⟩
      · exact h.elim
    · obtain ⟨us', M', S', hK, hle', hvs', hM', hdom⟩ := leakK_ok us xs S _ _ h hxs hM
      exact ⟨_, M', S', hK, hle', RVs.cons (hx.mono hle' (Env.le_refl _)) hvs', hM', hdom⟩
end

/-! ### The operations -/
/-- one element of a row is written -/
structure rowSetK {α : Type} (enc : α → List AV) (a : α) (o : Nat) (cs : List AV) (K : α → Prop) : Prop where
  out : ∃ a', enc a' = splice (enc a) o cs ∧ K a'
theorem rowSetK_iff {α : Type} {enc : α → List AV} {a : α} {o : Nat} {cs : List AV} {K : α → Prop} : rowSetK enc a o cs K ↔ (∃ a', enc a' = splice (enc a) o cs ∧ K a') := ⟨fun h => h.out, fun h => ⟨h⟩⟩
theorem rowSetI {α : Type} {enc : α → List AV} {a : α} {o : Nat} {cs : List AV} {K : α → Prop} (a' : α) (h : enc a' = splice (enc a) o cs) (hk : K a') : rowSetK enc a o cs K := by
  rw [rowSetK_iff]; exact ⟨a', h, hk⟩

def storeK (tt : TT) (t : TypeId) (us : List AV) (M : Mem) (K : Mem → Prop) : Prop :=
  match us with
  | [a, x] => match cellsA x, tt.find t with
    | some cs, some i => match Nat.beq cs.length i.size with
      | true => match a with
        | .ptr ℓ o => match M ℓ with
          | some (.box bt cells) => match allOne cs, Nat.ble (o + cs.length) cells.length with
            | true, true => forceL (splice cells o cs) fun cells' => K (M.set ℓ (.box bt cells'))
            | _, _ => False
          | _ => False
        | .rel ℓ j o => leakK cs M fun cs' M' => match M' ℓ with
          | some (.row rt d enc l) => match allPers cs', Nat.ble (o + cs'.length) (enc (l.getD j d)).length with
            | true, true => rowSetK enc (l.getD j d) o cs' fun a' => K (M'.set ℓ (.row rt d enc (l.set j a')))
            | _, _ => False
          | _ => False
        | _ => False
      | false => False
    | _, _ => False
  | _ => False

def allocK (tt : TT) (t : TypeId) (dst : Option Tmp) (M : Mem) (K : AV → Mem → Prop) : Prop :=
  match dst, tt.find t with
  | some d, some i => match M d with
    | none => forceL (i.zero.map constA) fun z => K (.ptr d 0) (M.set d (.box t z))
    | some _ => False
  | _, _ => False
/-- a variable that is put into memory: it is never written (known for good), or it gets a label -/
structure boxS (t : TypeId) (cs : List AV) (d : Nat) (M : Mem) (K : AV → Mem → Prop) : Prop where
  out : (allPers cs = true ∧ K (.pd cs) M) ∨ K (.ptr d 0) (M.set d (.box t cs))
theorem boxP {t : TypeId} {cs : List AV} {d : Nat} {M : Mem} {K : AV → Mem → Prop} (h : allPers cs = true) (hk : K (.pd cs) M) : boxS t cs d M K := ⟨.inl ⟨h, hk⟩⟩
theorem boxL {t : TypeId} {cs : List AV} {d : Nat} {M : Mem} {K : AV → Mem → Prop} (hk : K (.ptr d 0) (M.set d (.box t cs))) : boxS t cs d M K := ⟨.inr hk⟩
def boxK (t : TypeId) (us : List AV) (dst : Option Tmp) (M : Mem) (K : AV → Mem → Prop) : Prop :=
  match dst, us with
  | some d, [x] => match M d, cellsA x with
    | none, some cs => boxS t cs d M K
    | _, _ => False
  | _, _ => False

def encI (n : Int) : List AV := [.int .i64 n]
/-- a row made with zeros -/
structure mkK (Z : List AV) (bytes : Nat) (n c : Int) (K : (α : Type) → α → (α → List AV) → List α → Prop) : Prop where
  out : (0 ≤ n ∧ n ≤ c ∧ c * bytes ≤ 140737488355328) ∧ ∃ (α : Type) (d : α) (enc : α → List AV) (z : α), enc z = Z ∧ K α d enc (List.replicate n.toNat z)
theorem mkK_iff {Z : List AV} {bytes : Nat} {n c : Int} {K : (α : Type) → α → (α → List AV) → List α → Prop} : mkK Z bytes n c K ↔ ((0 ≤ n ∧ n ≤ c ∧ c * bytes ≤ 140737488355328) ∧ ∃ (α : Type) (d : α) (enc : α → List AV) (z : α), enc z = Z ∧ K α d enc (List.replicate n.toNat z)) := ⟨fun h => h.out, fun h => ⟨h⟩⟩
theorem mkI {Z : List AV} {bytes : Nat} {n c : Int} {K : (α : Type) → α → (α → List AV) → List α → Prop} {α : Type} (d : α) (enc : α → List AV) (z : α) (hz : enc z = Z)
    (h : 0 ≤ n ∧ n ≤ c ∧ c * bytes ≤ 140737488355328) (hk : K α d enc (List.replicate n.toNat z)) : mkK Z bytes n c K := by
  rw [mkK_iff]; exact ⟨h, α, d, enc, z, hz, hk⟩
def makeK (tt : TT) (t : TypeId) (us : List AV) (dst : Option Tmp) (M : Mem) (K : AV → Mem → Prop) : Prop :=
  match dst, us, tt.find t with
  | some d, [.int .i64 n, .int .i64 c], some ⟨_, _, .slice e, _⟩ => match M d, tt.find e with
    | none, some i => match allPers (i.zero.map constA), i.bytes with
      | true, _ + 1 => mkK (i.zero.map constA) i.bytes n c fun _ dd enc l => K (.row d n.toNat i.size) (M.set d (.row e dd enc l))
      | _, _ => False
    | _, _ => False
  | _, _, _ => False

/-- a row made of given elements -/
structure bldK (css : List (List AV)) (K : (α : Type) → α → (α → List AV) → List α → Prop) : Prop where
  out : ∃ (α : Type) (d : α) (enc : α → List AV) (l : List α), l.map enc = css ∧ K α d enc l
theorem bldK_iff {css : List (List AV)} {K : (α : Type) → α → (α → List AV) → List α → Prop} : bldK css K ↔ (∃ (α : Type) (d : α) (enc : α → List AV) (l : List α), l.map enc = css ∧ K α d enc l) := ⟨fun h => h.out, fun h => ⟨h⟩⟩
theorem bldI {css : List (List AV)} {K : (α : Type) → α → (α → List AV) → List α → Prop} {α : Type} (d : α) (enc : α → List AV) (l : List α) (h : l.map enc = css) (hk : K α d enc l) : bldK css K := by
  rw [bldK_iff]; exact ⟨α, d, enc, l, h, hk⟩
def cellsAll (n : Nat) : List AV → Option (List (List AV))
  | [] => some []
  | u :: us => match cellsA u, cellsAll n us with
    | some cs, some r => match Nat.beq cs.length n with
      | true => some (cs :: r)
      | false => none
    | _, _ => none
def allPers2 : List (List AV) → Bool
  | [] => true
  | u :: us => match allPers u with | true => allPers2 us | false => false
def intsOf : List (List AV) → Option (List Int)
  | [] => some []
  | [.int .i64 n] :: r => match intsOf r with
    | some l => some (n :: l)
    | none => none
  | _ => none
def isRange : List Nat → Nat → Bool
  | [], _ => true
  | i :: r, n => match Nat.beq i n with | true => isRange r (n + 1) | false => false
def leakLL : List (List AV) → Mem → (List (List AV) → Mem → Prop) → Prop
  | [], M, K => K [] M
  | cs :: r, M, K => leakK cs M fun cs' M' => leakLL r M' fun r' M'' => K (cs' :: r') M''
def buildK (tt : TT) (t : TypeId) (len : Nat) (is : List Nat) (us : List AV) (dst : Option Tmp) (M : Mem) (K : AV → Mem → Prop) : Prop :=
  match dst, tt.find t with
  | some d, some ⟨_, _, .slice e, _⟩ => match tt.find e with
    | some i => match isRange is 0, Nat.beq is.length len, Nat.ble (len * i.size) 16777216, cellsAll i.size us with
      | true, true, true, some css0 => leakLL css0 M fun css M' => match M' d with
        | none => match allPers2 css with
          | true => match intsOf css with
            | some ns => K (.row d len i.size) (M'.set d (.row e (0 : Int) encI ns))
            | none => bldK css fun α dd enc l => K (.row d len i.size) (M'.set d (.row e dd enc l))
          | false => False
        | some _ => False
      | _, _, _, _ => False
    | none => False
  | _, _ => False

/-- what a slice that is appended holds -/
def srcK (x : AV) (M : Mem) (K : (α : Type) → α → (α → List AV) → List α → Prop) : Prop :=
  match x with
  | .sl d enc l => K _ d enc l
  | .row ℓ _ _ => match M ℓ with
    | some (.row _ d enc l) => K _ d enc l
    | some (.gone d enc l) => K _ d enc l
    | _ => False
  | _ => False
structure appK {α β : Type} (enc : α → List AV) (l : List α) (enc' : β → List AV) (l' : List β) (bytes : Nat) (K : List α → Prop) : Prop where
  out : ((l.length + l'.length) * bytes ≤ 140737488355328) ∧ ∃ l'', l''.map enc = l'.map enc' ∧ K l''
theorem appK_iff {α β : Type} {enc : α → List AV} {l : List α} {enc' : β → List AV} {l' : List β} {bytes : Nat} {K : List α → Prop} : appK enc l enc' l' bytes K ↔ (((l.length + l'.length) * bytes ≤ 140737488355328) ∧ ∃ l'', l''.map enc = l'.map enc' ∧ K l'') := ⟨fun h => h.out, fun h => ⟨h⟩⟩
theorem appI {α β : Type} {enc : α → List AV} {l : List α} {enc' : β → List AV} {l' : List β} {bytes : Nat} {K : List α → Prop} (l'' : List α) (h : l''.map enc = l'.map enc')
    (hb : (l.length + l'.length) * bytes ≤ 140737488355328) (hk : K l'') : appK enc l enc' l' bytes K := by
  rw [appK_iff]; exact ⟨hb, l'', h, hk⟩
def appendK (tt : TT) (ts : List TypeId) (us : List AV) (dst : Option Tmp) (M : Mem) (K : AV → Mem → Prop) : Prop :=
  match dst, ts, us with
  | some d, [t, t'], [s, x] => match tt.find t, isSlice tt t', M d with
    | some ⟨_, _, .slice e, _⟩, true, none => match tt.find e with
      | some i => match i.bytes with
        | 0 => False
        | _ + 1 => srcK x M fun _ dd' enc' l' => match Nat.beq (enc' (l'.getD 0 dd')).length i.size with
          | true => match s with
            | .nilsl => needK (l'.length * i.bytes ≤ 140737488355328) (K (.row d l'.length i.size) (M.set d (.row e dd' enc' l')))
            | .row ℓ n sz => match M ℓ, Nat.beq sz i.size with
              | some (.row e' dd enc l), true => match Nat.beq e' e, (match x with | .row ℓ' _ _ => !(Nat.beq ℓ ℓ') | _ => true) with
                | true, true => appK enc l enc' l' i.bytes fun l'' => K (.row d (n + l'.length) i.size) ((M.set ℓ .dead).set d (.row e dd enc (l ++ l'')))
                | _, _ => False
              | _, _ => False
            | _ => False
          | false => False
      | none => False
    | _, _, _ => False
  | _, _, _ => False

end Go.Proofs.Ytihligeggkpolaa
