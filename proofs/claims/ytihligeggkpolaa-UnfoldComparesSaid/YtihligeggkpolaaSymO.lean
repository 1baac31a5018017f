/-
  A region that draws its order: the order of the text speaks for every order, where the operations that are not ordered commute.
-/
import Derived.Test.YtihligeggkpolaaSymN
namespace Go.Proofs.Ytihligeggkpolaa

/-- a transformer that asks for one outcome -/
def Det {X : Type 1} (T : (X → Prop) → Prop) : Prop := ∃ p : X → Prop, ∀ K, T K ↔ ∃ x, p x ∧ K x
theorem Det.false {X : Type 1} : Det (fun _ : X → Prop => False) := ⟨fun _ => False, fun K => by simp⟩
theorem Det.one {X : Type 1} (x : X) : Det (fun K : X → Prop => K x) := ⟨fun y => y = x, fun K => by simp⟩
theorem Det.need {X : Type 1} (c : Prop) {T : (X → Prop) → Prop} (h : Det T) : Det (fun K => needK c (T K)) := by
  obtain ⟨p, hp⟩ := h
  refine ⟨fun x => c ∧ p x, fun K => ?_⟩
  simp only [needK_iff]
  show c ∧ T K ↔ _
  rw [hp]
  exact ⟨fun ⟨hc, x, h1, h2⟩ => ⟨x, ⟨hc, h1⟩, h2⟩, fun ⟨x, ⟨hc, h1⟩, h2⟩ => ⟨hc, x, h1, h2⟩⟩
theorem Det.bind {X Y : Type 1} {T : (Y → Prop) → Prop} {U : Y → (X → Prop) → Prop} (h : Det T) (hU : ∀ y, Det (U y)) : Det (fun K => T fun y => U y K) := by
  obtain ⟨p, hp⟩ := h
  refine ⟨fun x => ∃ y, p y ∧ Classical.choose (hU y) x, fun K => ?_⟩
  show T (fun y => U y K) ↔ _
  refine (hp _).trans ?_
  constructor
  · rintro ⟨y, hy, hK⟩
    obtain ⟨x, h1, h2⟩ := (Classical.choose_spec (hU y) K).1 hK
    exact ⟨x, ⟨y, hy, h1⟩, h2⟩
  · rintro ⟨x, ⟨y, hy, h1⟩, h2⟩
    exact ⟨y, hy, (Classical.choose_spec (hU y) K).2 ⟨x, h1, h2⟩⟩
theorem Det.congr {X : Type 1} {T T' : (X → Prop) → Prop} (h : Det T) (e : ∀ K, T' K ↔ T K) : Det T' := by
  obtain ⟨p, hp⟩ := h
  exact ⟨p, fun K => (e K).trans (hp K)⟩
theorem Det.ex {X : Type 1} {I : Sort _} {T : I → (X → Prop) → Prop} (h : ∀ i, Det (T i)) : Det (fun K => ∃ i, T i K) := by
  refine ⟨fun x => ∃ i, Classical.choose (h i) x, fun K => ?_⟩
  constructor
  · rintro ⟨i, hK⟩
    obtain ⟨x, h1, h2⟩ := (Classical.choose_spec (h i) K).1 hK
    exact ⟨x, ⟨i, h1⟩, h2⟩
  · rintro ⟨x, ⟨i, h1⟩, h2⟩
    exact ⟨i, (Classical.choose_spec (h i) K).2 ⟨x, h1, h2⟩⟩
theorem Det.and {X : Type 1} (c : Prop) {T : (X → Prop) → Prop} (h : Det T) : Det (fun K => c ∧ T K) := by
  obtain ⟨p, hp⟩ := h
  refine ⟨fun x => c ∧ p x, fun K => ?_⟩
  show c ∧ T K ↔ _
  rw [hp]
  exact ⟨fun ⟨hc, x, h1, h2⟩ => ⟨x, ⟨hc, h1⟩, h2⟩, fun ⟨x, ⟨hc, h1⟩, h2⟩ => ⟨hc, x, h1, h2⟩⟩

theorem Det.or {X : Type 1} {T U : (X → Prop) → Prop} (h : Det T) (h' : Det U) : Det (fun K => T K ∨ U K) := by
  obtain ⟨p, hp⟩ := h
  obtain ⟨q, hq⟩ := h'
  refine ⟨fun x => p x ∨ q x, fun K => ?_⟩
  show T K ∨ U K ↔ _
  rw [hp, hq]
  constructor
  · rintro (⟨x, a, b⟩ | ⟨x, a, b⟩)
    · exact ⟨x, .inl a, b⟩
    · exact ⟨x, .inr a, b⟩
  · rintro ⟨x, a | a, b⟩
    · exact .inl ⟨x, a, b⟩
    · exact .inr ⟨x, a, b⟩
theorem det_rsK (r : Rs) : Det (fun K : AV → Prop => rsK r K) := by
  cases r with
  | no => exact Det.false
  | val u => simp only [rsK, forceK_eq]; exact Det.one u
  | need c u => simp only [rsK, forceK_eq]; exact Det.need c (Det.one u)
  | arith c k n => simp only [rsK]; simp only [arithK_iff]; exact Det.and c (Det.one _)
  | cmp p i => simp only [rsK]; simp only [cmpK_iff]; exact Det.one _

theorem det_leak : ∀ (us : List AV) (M : Mem), Det (fun K : List AV × Mem → Prop => leakK us M fun a b => K (a, b))
  | [], M => Det.one ([], M)
  | u :: us, M => by
    have key : ∀ (x : AV) (M' : Mem), Det (fun K : List AV × Mem → Prop => leakK us M' fun us' M'' => K (x :: us', M'')) := fun x M' =>
      (Det.bind (det_leak us M') (fun y : List AV × Mem => Det.one (x :: y.1, y.2))).congr fun K => Iff.rfl
    simp only [leakK]
    split
    · rename_i ℓ n sz
      split
      · exact key _ _
      · exact key _ _
      · exact Det.false
    · exact key _ _
theorem det_leakLL : ∀ (css : List (List AV)) (M : Mem), Det (fun K : List (List AV) × Mem → Prop => leakLL css M fun a b => K (a, b))
  | [], M => Det.one ([], M)
  | cs :: r, M => by
    simp only [leakLL]
    refine (Det.bind (det_leak cs M) (U := fun y K => leakLL r y.2 fun r' M'' => K (y.1 :: r', M'')) (fun y => ?_)).congr fun K => Iff.rfl
    exact (Det.bind (det_leakLL r y.2) (fun z : List (List AV) × Mem => Det.one (y.1 :: z.1, z.2))).congr fun K => Iff.rfl

theorem det_store (tt : TT) (t : TypeId) (us : List AV) (M : Mem) : Det (fun K : Mem → Prop => storeK tt t us M K) := by
  unfold storeK
  split
  · split
    · split
      · split
        · split
          · split
            · simp only [forceL_eq]; exact Det.one _
            · exact Det.false
          · exact Det.false
        · rename_i ℓ j o
          refine (Det.bind (det_leak _ M) (U := fun y (K : Mem → Prop) => match y.2 ℓ with
            | some (.row rt d enc l) => match allPers y.1, Nat.ble (o + y.1.length) (enc (l.getD j d)).length with
              | true, true => rowSetK enc (l.getD j d) o y.1 fun a' => K (y.2.set ℓ (.row rt d enc (l.set j a')))
              | _, _ => False
            | _ => False) (fun y => ?_)).congr fun K => Iff.rfl
          split
          · split
            · simp only [rowSetK_iff]
              exact Det.ex fun a' => Det.and _ (Det.one _)
            · exact Det.false
          · exact Det.false
        · exact Det.false
      · exact Det.false
    · exact Det.false
  · exact Det.false
theorem det_alloc (tt : TT) (t : TypeId) (dst : Option Tmp) (M : Mem) : Det (fun K : AV × Mem → Prop => allocK tt t dst M fun a b => K (a, b)) := by
  unfold allocK
  split
  · split
    · simp only [forceL_eq]; exact Det.one (_, _)
    · exact Det.false
  · exact Det.false
theorem det_box (t : TypeId) (us : List AV) (dst : Option Tmp) (M : Mem) : Det (fun K : AV × Mem → Prop => boxK t us dst M fun a b => K (a, b)) := by
  unfold boxK
  split
  · split
    · exact (Det.or (Det.and _ (Det.one (_, _))) (Det.one (_, _))).congr fun K => ⟨fun h => h.out, fun h => ⟨h⟩⟩
    · exact Det.false
  · exact Det.false
theorem det_make (tt : TT) (t : TypeId) (us : List AV) (dst : Option Tmp) (M : Mem) : Det (fun K : AV × Mem → Prop => makeK tt t us dst M fun a b => K (a, b)) := by
  unfold makeK
  split
  · split
    · split
      · simp only [mkK_iff]
        exact Det.and _ (Det.ex fun α => Det.ex fun d => Det.ex fun enc => Det.ex fun z => Det.and _ (Det.one (_, _)))
      · exact Det.false
    · exact Det.false
  · exact Det.false
theorem det_build (tt : TT) (t : TypeId) (len : Nat) (is : List Nat) (us : List AV) (dst : Option Tmp) (M : Mem) : Det (fun K : AV × Mem → Prop => buildK tt t len is us dst M fun a b => K (a, b)) := by
  unfold buildK
  split
  · rename_i d _ _ e _ _
    split
    · rename_i i _
      split
      · refine (Det.bind (det_leakLL _ M) (U := fun y (K : AV × Mem → Prop) => match y.2 d with
            | none => match allPers2 y.1 with
              | true => match intsOf y.1 with
                | some ns => K (.row d len i.size, y.2.set d (.row e (0 : Int) encI ns))
                | none => bldK y.1 fun _ dd enc l => K (.row d len i.size, y.2.set d (.row e dd enc l))
              | false => False
            | some _ => False) (fun y => ?_)).congr fun K => Iff.rfl
        split
        · split
          · split
            · exact Det.one (_, _)
            · simp only [bldK_iff]
              exact Det.ex fun α => Det.ex fun d => Det.ex fun enc => Det.ex fun z => Det.and _ (Det.one (_, _))
          · exact Det.false
        · exact Det.false
      · exact Det.false
    · exact Det.false
  · exact Det.false
theorem det_app (tt : TT) (d : Nat) (e : TypeId) (i : TI) (s x : AV) (M : Mem) (β : Type) (dd' : β) (enc' : β → List AV) (l' : List β) : Det (fun K : AV × Mem → Prop => match Nat.beq (enc' (l'.getD 0 dd')).length i.size with
    | true => match s with
      | .nilsl => needK (l'.length * i.bytes ≤ 140737488355328) (K (.row d l'.length i.size, M.set d (.row e dd' enc' l')))
      | .row ℓ n sz => match M ℓ, Nat.beq sz i.size with
        | some (.row e' dd enc l), true => match Nat.beq e' e, (match x with | .row ℓ' _ _ => !(Nat.beq ℓ ℓ') | _ => true) with
          | true, true => appK enc l enc' l' i.bytes fun l'' => K (.row d (n + l'.length) i.size, (M.set ℓ .dead).set d (.row e dd enc (l ++ l'')))
          | _, _ => False
        | _, _ => False
      | _ => False
    | false => False) := by
  split
  · split
    · exact Det.need _ (Det.one (_, _))
    · split
      · split
        · simp only [appK_iff]
          exact Det.and _ (Det.ex fun l'' => Det.and _ (Det.one (_, _)))
        · exact Det.false
      · exact Det.false
    · exact Det.false
  · exact Det.false
theorem det_src (x : AV) (M : Mem) {X : Type 1} {U : (α : Type) → α → (α → List AV) → List α → (X → Prop) → Prop} (h : ∀ α d enc l, Det (U α d enc l)) : Det (fun K : X → Prop => srcK x M fun α d enc l => U α d enc l K) := by
  unfold srcK
  split
  · exact h _ _ _ _
  · split
    · exact h _ _ _ _
    · exact h _ _ _ _
    · exact Det.false
  · exact Det.false
theorem det_append (tt : TT) (ts : List TypeId) (us : List AV) (dst : Option Tmp) (M : Mem) : Det (fun K : AV × Mem → Prop => appendK tt ts us dst M fun a b => K (a, b)) := by
  unfold appendK
  split
  · split
    · split
      · split
        · exact Det.false
        · exact det_src _ M fun α d enc l => det_app tt _ _ _ _ _ M α d enc l
      · exact Det.false
    · exact Det.false
  · exact Det.false

/-! ### Classes of operations -/
/-- 0: reads the frame alone; 1: a load; 2: a call; 3: makes or writes memory -/
def cls : Op → Nat
  | .load _ _ => 1
  | .store _ _ _ | .alloc _ | .box _ _ | .makeSlice _ _ _ | .buildSlice _ _ _ => 3
  | .call c => match c.callee with
    | .value _ => 2
    | .builtin .append => 3
    | _ => 0
  | _ => 0

variable {P : Program} {tt : TT}
theorem semK_r {o : Oper} (h : cls o.op = 0 ∨ cls o.op = 1) (draw : Option Bool) (us : List AV) (M : Mem) (K : AV → Mem → Prop) : semK P tt draw o us M K = rsK (evM draw tt o.op us M) fun u => K u M := by
  unfold semK
  cases ho : o.op with
  | store _ _ _ => rw [ho] at h; simp [cls] at h
  | alloc _ => rw [ho] at h; simp [cls] at h
  | box _ _ => rw [ho] at h; simp [cls] at h
  | makeSlice _ _ _ => rw [ho] at h; simp [cls] at h
  | buildSlice _ _ _ => rw [ho] at h; simp [cls] at h
  | call c =>
    obtain ⟨callee, args, tys⟩ := c
    cases callee with
    | value f => rw [ho] at h; simp [cls] at h
    | invoke _ _ => rfl
    | builtin b => cases b <;> first | rfl | (rw [ho] at h; simp [cls] at h)
  | _ => rfl
theorem evR_n {op : Op} (h : cls op = 0) (us : List AV) (M M' : Mem) : evR tt op us M = evR tt op us M' := by
  cases op <;> first | rfl | simp [cls] at h
theorem evM_n (draw : Option Bool) {op : Op} (h : cls op = 0) (us : List AV) (M M' : Mem) : evM draw tt op us M = evM draw tt op us M' := by
  unfold evM
  split
  · split
    · simp [cls] at h
    · rfl
  · exact evR_n h us M M'
theorem det_storeM (draw : Option Bool) (tt : TT) (t : TypeId) (us : List AV) (M : Mem) : Det (fun K : Mem → Prop => storeM draw tt t us M K) := by
  unfold storeM
  split
  · split
    · split
      · split
        · exact det_store tt t _ M
        · exact Det.false
      · exact Det.false
    · exact Det.false
  · exact det_store tt t us M
theorem semK_x {o : Oper} (h : cls o.op = 3) (draw : Option Bool) (us : List AV) (M : Mem) : Det (fun K : AV × Mem → Prop => semK P tt draw o us M fun a b => K (a, b)) := by
  unfold semK
  cases ho : o.op with
  | store t _ _ => exact (Det.bind (det_storeM draw tt t us M) (fun m => Det.one (.tup [], m))).congr fun K => Iff.rfl
  | alloc t => exact det_alloc tt t o.dst M
  | box t _ => exact det_box t us o.dst M
  | makeSlice t _ _ => exact det_make tt t us o.dst M
  | buildSlice t len ps =>
    cases draw with
    | none => exact det_build tt t len _ us o.dst M
    | some r =>
      refine (Det.bind (det_build tt t len _ us o.dst M) (U := fun z K => leakS z.1 z.2 fun a b => K (a, b)) (fun z => ?_)).congr fun K => Iff.rfl
      simp only [leakS_iff]
      refine Det.or (Det.one (z.1, z.2)) ?_
      refine (Det.bind (det_leak [z.1] z.2) (U := fun y K => match y.1 with | [x] => K (x, y.2) | _ => False) (fun y => ?_)).congr fun K => Iff.rfl
      split
      · exact Det.one (_, _)
      · exact Det.false
  | call c =>
    obtain ⟨callee, args, tys⟩ := c
    cases callee with
    | value f => rw [ho] at h; simp [cls] at h
    | invoke _ _ => rw [ho] at h; simp [cls] at h
    | builtin b => cases b <;> first | exact det_append tt _ us o.dst M | (rw [ho] at h; simp [cls] at h)
  | _ => rw [ho] at h; simp [cls] at h

end Go.Proofs.Ytihligeggkpolaa
