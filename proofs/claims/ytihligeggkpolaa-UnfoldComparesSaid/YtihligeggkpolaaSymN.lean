/-
  One operation of a frame, abstractly; and a region in the order of the text.
-/
import Derived.Test.YtihligeggkpolaaSymM
namespace Go.Proofs.Ytihligeggkpolaa

def getK : List AV → Nat → (AV → Prop) → Prop
  | [], _, k => k .top
  | v :: _, 0, k => k v
  | _ :: l, n + 1, k => getK l n k
theorem getK_eq : ∀ (l : List AV) (n : Nat) (k : AV → Prop), getK l n k = k (l.getD n .top)
  | [], _, _ => by simp [getK]
  | _ :: _, 0, _ => by simp [getK]
  | _ :: l, n + 1, k => by rw [getK, getK_eq l n k]; simp
def putK : List AV → Nat → AV → (List AV → Prop) → Prop
  | [], _, _, k => k []
  | _ :: l, 0, v, k => k (v :: l)
  | x :: l, n + 1, v, k => putK l n v fun l' => k (x :: l')
theorem putK_eq : ∀ (l : List AV) (n : Nat) (v : AV) (k : List AV → Prop), putK l n v k = k (l.set n v)
  | [], _, _, _ => by simp [putK]
  | _ :: _, 0, _, _ => by simp [putK]
  | _ :: l, n + 1, v, k => by rw [putK, putK_eq l n v]; simp
def putD (fr : List AV) (d : Option Tmp) (u : AV) (k : List AV → Prop) : Prop :=
  match d with
  | some d => putK fr d u k
  | none => k fr
def setD (fr : List AV) (d : Option Tmp) (u : AV) : List AV :=
  match d with
  | some d => fr.set d u
  | none => fr
theorem putD_eq (fr : List AV) (d : Option Tmp) (u : AV) (k : List AV → Prop) : putD fr d u k = k (setD fr d u) := by
  cases d <;> simp [putD, setD, putK_eq]
def constK (v : Value) (k : AV → Prop) : Prop :=
  match v with
  | .int i n => k (.int i n)
  | .bool b => k (.bool b)
  | .string s => k (.str s)
  | .slice none 0 0 => k .nilsl
  | v => k (.val v)
theorem constK_eq (v : Value) (k : AV → Prop) : constK v k = k (constA v) := by
  unfold constK constA
  split <;> simp
def avK (fr : List AV) (x : Operand) (k : AV → Prop) : Prop :=
  match x with
  | .tmp t => getK fr t k
  | .const v => constK v k
  | .func f => k (.fn f [])
  | .global g => k (.val (.pointer (some ⟨g, 0, none⟩)))
def avOf (fr : List AV) : Operand → AV
  | .tmp t => fr.getD t .top
  | .const v => constA v
  | .func f => .fn f []
  | .global g => .val (.pointer (some ⟨g, 0, none⟩))
theorem avK_eq (fr : List AV) (x : Operand) (k : AV → Prop) : avK fr x k = k (avOf fr x) := by
  cases x <;> simp [avK, avOf, getK_eq, constK_eq]
def avsK (fr : List AV) : List Operand → (List AV → Prop) → Prop
  | [], k => k []
  | x :: xs, k => avK fr x fun u => avsK fr xs fun us => k (u :: us)
theorem avsK_eq (fr : List AV) : ∀ (xs : List Operand) (k : List AV → Prop), avsK fr xs k = k (xs.map (avOf fr))
  | [], _ => rfl
  | x :: xs, k => by rw [avsK, avK_eq, avsK_eq fr xs]; rfl
def catK : List AV → List AV → (List AV → Prop) → Prop
  | [], r, k => k r
  | x :: l, r, k => catK l r fun l' => k (x :: l')
theorem catK_eq : ∀ (l r : List AV) (k : List AV → Prop), catK l r k = k (l ++ r)
  | [], _, _ => rfl
  | x :: l, r, k => by rw [catK, catK_eq l r]; rfl

/-- a call in a region that draws its order: by a contract without labels -/
structure callP (P : Program) (f : FuncId) (args : List AV) (K : AV → Prop) : Prop where
  out : ∃ R n, PSpec P f args R ∧ args.all (persN n) = true ∧ (∃ u, R u) ∧ ∀ u, R u → K u
theorem callP_iff {P : Program} {f : FuncId} {args : List AV} {K : AV → Prop} : callP P f args K ↔ (∃ R n, PSpec P f args R ∧ args.all (persN n) = true ∧ (∃ u, R u) ∧ ∀ u, R u → K u) := ⟨fun h => h.out, fun h => ⟨h⟩⟩
theorem callPI {P : Program} {f : FuncId} {args : List AV} {K : AV → Prop} {R : AV → Prop} (n : Nat) (h : PSpec P f args R) (hp : args.all (persN n) = true) (he : ∃ u, R u) (hk : ∀ u, R u → K u) : callP P f args K := by
  rw [callP_iff]; exact ⟨R, n, h, hp, he, hk⟩

/-- in a region that draws its order with 'rows': loads are not from rows, stores go into rows alone -/
def evM (draw : Option Bool) (tt : TT) (op : Op) (us : List AV) (M : Mem) : Rs :=
  match draw with
  | some true => match op with
    | .load t _ => match us with
      | [.rel _ _ _] => .no
      | [x] => evLoad tt t M x
      | _ => .no
    | op => evN tt op us
  | _ => evR tt op us M
def storeM (draw : Option Bool) (tt : TT) (t : TypeId) (us : List AV) (M : Mem) (K : Mem → Prop) : Prop :=
  match draw with
  | some true => match us with
    | [.rel ℓ j o, x] => match cellsA x with
      | some cs => match allPers cs with
        | true => storeK tt t [.rel ℓ j o, x] M K
        | false => False
      | none => False
    | _ => False
  | _ => storeK tt t us M K
theorem storeM_le {draw : Option Bool} {tt : TT} {t : TypeId} {us : List AV} {M : Mem} {K : Mem → Prop} (h : storeM draw tt t us M K) : storeK tt t us M K := by
  unfold storeM at h
  split at h
  · split at h
    · split at h
      · split at h
        · exact h
        · exact h.elim
      · exact h.elim
    · exact h.elim
  · exact h
theorem evM_le (draw : Option Bool) (tt : TT) (op : Op) (us : List AV) (M : Mem) : evM draw tt op us M = .no ∨ evM draw tt op us M = evR tt op us M := by
  unfold evM
  split
  · split
    · split
      · exact .inl rfl
      · exact .inr rfl
      · exact .inl rfl
    · rename_i h
      right
      unfold evR
      split
      · rename_i t x; exact absurd rfl (h t x)
      · rfl
  · exact .inr rfl

/-- in a region that draws its order a new row may become known for good at once -/
structure leakS (u : AV) (M : Mem) (K : AV → Mem → Prop) : Prop where
  out : K u M ∨ leakK [u] M fun us M' => match us with | [x] => K x M' | _ => False
theorem leakN {u : AV} {M : Mem} {K : AV → Mem → Prop} (h : K u M) : leakS u M K := ⟨.inl h⟩
theorem leakY {u : AV} {M : Mem} {K : AV → Mem → Prop} (h : leakK [u] M fun us M' => match us with | [x] => K x M' | _ => False) : leakS u M K := ⟨.inr h⟩
theorem leakS_iff {u : AV} {M : Mem} {K : AV → Mem → Prop} : leakS u M K ↔ (K u M ∨ leakK [u] M fun us M' => match us with | [x] => K x M' | _ => False) := ⟨fun h => h.out, fun h => ⟨h⟩⟩
def leakM (draw : Option Bool) (K : AV → Mem → Prop) : AV → Mem → Prop :=
  match draw with
  | none => K
  | some _ => fun u M => leakS u M K

def semK (P : Program) (tt : TT) (draw : Option Bool) (o : Oper) (us : List AV) (M : Mem) (K : AV → Mem → Prop) : Prop :=
  match o.op with
  | .store t _ _ => storeM draw tt t us M fun M' => K (.tup []) M'
  | .alloc t => allocK tt t o.dst M K
  | .box t _ => boxK t us o.dst M K
  | .makeSlice t _ _ => makeK tt t us o.dst M K
  | .buildSlice t len ps => buildK tt t len (ps.toList.map (·.1)) us o.dst M (leakM draw K)
  | .call c => match c.callee with
    | .value _ => match us with
      | .fn f caps :: args => match draw with
        | none => catK args caps fun l => Spec P f l M K
        | some _ => catK args caps fun l => callP P f l fun u => K u M
      | _ => False
    | .builtin .append => appendK tt c.argTypes.toList us o.dst M K
    | _ => rsK (evM draw tt o.op us M) fun u => K u M
  | _ => rsK (evM draw tt o.op us M) fun u => K u M

section
variable {S F : Store} {ρ : Env} {M : Mem} {w : World} {P : Program} {tt : TT}

theorem RepF.eval {a : Act} {fr : List AV} (h : RepF S ρ a fr) (x : Operand) : RV S ρ (a.eval x) (avOf fr x) := by
  cases x with
  | tmp t =>
    simp only [Act.eval, avOf]
    by_cases ht : t < fr.length
    · have hg : fr[t]? = some (fr.getD t .top) := by simp [List.getD, ht]
      obtain ⟨v, hv, hr⟩ := h.1.2 t _ hg
      have : a.tmps.getD t undef = v := by
        have hv' : a.tmps[t]? = some v := by simpa using hv
        simp [hv']
      rw [this]; exact hr
    · have : fr.getD t .top = .top := by simp [List.getD, ht]
      rw [this]; exact .p (.top _)
  | const v => exact .p (constA_ok v)
  | func f => exact RV.fn_mk f (RVs.nil _ _)
  | global g => exact .p (.val _)
theorem RepF.evals {a : Act} {fr : List AV} (h : RepF S ρ a fr) : ∀ xs : List Operand, RVs S ρ (xs.map a.eval) (xs.map (avOf fr))
  | [] => RVs.nil _ _
  | x :: xs => RVs.cons (h.eval x) (RepF.evals h xs)

theorem RVs.set_ {vs : List Value} {us : List AV} (h : RVs S ρ vs us) (d : Nat) {v : Value} {u : AV} (hv : RV S ρ v u) : RVs S ρ (vs.set d v) (us.set d u) := by
  refine ⟨by simp [h.1], fun i x hx => ?_⟩
  rw [List.getElem?_set] at hx ⊢
  split at hx
  · split at hx
    · rename_i e hl
      subst e
      cases hx
      exact ⟨v, by rw [if_pos rfl, if_pos (by rw [h.1]; exact hl)], hv⟩
    · simp at hx
  · rename_i e
    obtain ⟨y, hy, hr⟩ := h.2 i x hx
    exact ⟨y, by rw [if_neg e]; exact hy, hr⟩
theorem RepF.put {a : Act} {fr : List AV} (h : RepF S ρ a fr) (d : Option Tmp) {v : Value} {u : AV} (hv : RV S ρ v u) : RepF S ρ (a.put d v) (setD fr d u) := by
  cases d with
  | none => exact h
  | some d => exact ⟨by simpa [Act.put, setD] using h.1.set_ d hv, h.2⟩
theorem RepF.mono {S' : Store} {ρ' : Env} {a : Act} {fr : List AV} (h : RepF S ρ a fr) (hS : S.le S') (hρ : Env.le ρ ρ') : RepF S' ρ' a fr := ⟨h.1.mono hS hρ, h.2⟩

/-- What holds behind a piece of code. -/
def After (S F : Store) (ρ : Env) (w : World) (K : List AV → Mem → Prop) (a : Act) (w' : World) : Prop :=
  ∃ fr M' S' ρ', K fr M' ∧ S.le S' ∧ Env.le ρ ρ' ∧ RepM S' F ρ' M' w' ∧ RepF S' ρ' a fr ∧ Wle w w'
theorem After.trans {S' : Store} {ρ' : Env} {w' w'' : World} {K : List AV → Mem → Prop} {a : Act} (h : After S' F ρ' w' K a w'') (hS : S.le S') (hρ : Env.le ρ ρ') (hw : Wle w w') : After S F ρ w K a w'' := by
  obtain ⟨fr, M', S2, ρ2, hk, h1, h2, h3, h4, h5⟩ := h
  exact ⟨fr, M', S2, ρ2, hk, Store.le_trans hS h1, Env.le_trans hρ h2, h3, h4, hw.trans h5⟩
theorem After.mono {K K' : List AV → Mem → Prop} {a : Act} {w' : World} (h : After S F ρ w K a w') (hk : ∀ fr M, K fr M → K' fr M) : After S F ρ w K' a w' := by
  obtain ⟨fr, M', S2, ρ2, h0, h⟩ := h
  exact ⟨fr, M', S2, ρ2, hk _ _ h0, h⟩

theorem wp_value {o : Oper} {a : Act} {next : Act → World → Prop} {Q : Exit → Act → World → Prop} {m : Sem Value} {v : Value} {w' : World} (he : execOp a.eval o = (do pure (.value (← m)))) (h : m.run P w = .ok v w') (hn : next (a.put o.dst v) w') :
    o.wp P a w next Q := by
  unfold Oper.wp; rw [he]; simp only [Sem.run_bind, h, Result.andThen_ok, Sem.run_pure, Oper.upon]; exact hn

theorem semK_ok (hT : TOkB P tt = true) {draw : Option Bool} {o : Oper} {us : List AV} {a : Act} {K : AV → Mem → Prop} {Q : Exit → Act → World → Prop} {fr : List AV} (h : semK P tt draw o us M K) (hM : RepM S F ρ M w) (hF : RepF S ρ a fr)
    (hu : RVs S ρ ((opnds o.op).map a.eval) us) : o.wp P a w (After S F ρ w (fun fr' M' => ∃ u, K u M' ∧ fr' = setD fr o.dst u)) Q := by
  have fin : ∀ {m : Sem Value}, execOp a.eval o = (do pure (.value (← m))) → Leaves P S F ρ w m K → o.wp P a w (After S F ρ w (fun fr' M' => ∃ u, K u M' ∧ fr' = setD fr o.dst u)) Q := by
    intro m he ⟨v, u, M', S', ρ', w', hr, hK, h1, h2, h3, h4, h5⟩
    exact wp_value he hr ⟨_, M', S', ρ', ⟨u, hK, rfl⟩, h1, h2, h3, (hF.mono h1 h2).put _ h4, h5⟩
  have rs : ∀ {r : Rs}, RsOk S ρ P w (execOp a.eval o) r → ∀ {r' : Rs}, (r' = .no ∨ r' = r) → rsK r' (fun u => K u M) → o.wp P a w (After S F ρ w (fun fr' M' => ∃ u, K u M' ∧ fr' = setD fr o.dst u)) Q := by
    intro r hr r' hr' hk
    rcases hr' with rfl | rfl
    · exact hk.elim
    obtain ⟨v, u, he, hv, hK⟩ := rsK_ok hk hr
    unfold Oper.wp
    rw [he]
    exact ⟨_, M, S, ρ, ⟨u, hK, rfl⟩, Store.le_refl _, Env.le_refl _, hM, hF.put _ hv, Wle.refl _⟩
  obtain ⟨dst, op, ty, ps, af, gd⟩ := o
  unfold semK at h
  cases op with
  | store t x y =>
    obtain ⟨M', S', ρ', w', hr, hK, h1, h2, h3, h5⟩ := storeK_ok hT (va := a.eval x) (vx := a.eval y) (storeM_le h) hM hu
    unfold Oper.wp
    have he : (execOp a.eval ⟨dst, .store t x y, ty, ps, af, gd⟩).run P w = .ok .skip w' := by
      simp only [execOp, Sem.run_bind, hr, Result.andThen_ok, Sem.run_pure]
    rw [he]
    refine ⟨_, M', S', ρ', ⟨_, hK, rfl⟩, h1, h2, h3, (hF.mono h1 h2).put _ ?_, h5⟩
    exact RV.tup_mk (RVs.nil _ _)
  | alloc t => exact fin rfl (allocK_ok hT h hM)
  | box t x => exact fin rfl (boxK_ok (v := a.eval x) h hM hu)
  | makeSlice t x y => exact fin rfl (makeK_ok hT (vl := a.eval x) (vc := a.eval y) h hM hu)
  | buildSlice t len parts =>
    have hz : ((parts.toList.map (·.1)).zip ((parts.toList.map (·.2)).map a.eval)).toArray = parts.map fun (i, x) => (i, a.eval x) := by
      apply Array.ext'
      simp only [List.toList_toArray, Array.toList_map, List.map_map]
      rw [List.zip_map']
      rfl
    have := buildK_ok (P := P) (S := S) (F := F) (ρ := ρ) (w := w) (vs := (parts.toList.map (fun p : Nat × Operand => p.2)).map a.eval) hT h hM hu (by simp)
    rw [hz] at this
    refine fin rfl ?_
    cases draw with
    | none => exact this
    | some r =>
      obtain ⟨v, u, M', S', ρ', w', hr, hK, h1, h2, h3, h4, h5⟩ := this
      have hK' : leakS u M' K := hK
      rcases hK'.out with hK | hK
      · exact ⟨v, u, M', S', ρ', w', hr, hK, h1, h2, h3, h4, h5⟩
      · obtain ⟨us', M2, S2, hK2, hle2, hv2, hM2, _⟩ := leakK_ok [u] [v] S' M' _ hK (RVs.cons h4 (RVs.nil _ _)) h3
        cases us' with
        | nil => exact hK2.elim
        | cons x r =>
          cases r with
          | cons _ _ => exact hK2.elim
          | nil =>
            obtain ⟨y, ys, e, hy, _⟩ := hv2.cons_inv
            injection e with e1 _
            subst e1
            exact ⟨v, x, M2, S2, ρ', w', hr, hK2, Store.le_trans h1 hle2, h2, hM2, hy, h5⟩
  | call c =>
    obtain ⟨callee, args, tys⟩ := c
    cases callee with
    | value f =>
      have hcall : ∀ (g : FuncId) (caps : Array Value), a.eval f = .func (.func g) #[] caps → Plain P g → (execOp a.eval ⟨dst, .call ⟨.value f, args, tys⟩, ty, ps, af, gd⟩).run P w = .ok (.enter g (args.map a.eval ++ caps)) w := by
        intro g caps hf ⟨fn, h1, h2, h3⟩
        simp only [execOp, resolve, hf, Deferred.ofValue, Sem.run_bind, Sem.run_pure, Result.andThen_ok, invoke, Array.empty_append, callFunc, run_program, h1, h2, h3, Bool.false_eq_true, if_false]
      simp only [opnds, List.map_cons] at hu
      cases us with
      | nil => simp [RVs] at hu
      | cons u0 us =>
        obtain ⟨v0, vs, e, hv0, hvs⟩ := hu.cons_inv
        injection e with e1 e2
        subst e1; subst e2
        simp only at h
        split at h
        · rename_i g caps args' e
          injection e with e1 e2
          subst e1; subst e2
          obtain ⟨cv, hf, hcv⟩ := hv0.fn_inv
          have harr : (args.map a.eval ++ cv) = ((args.toList.map a.eval) ++ cv.toList).toArray := by apply Array.ext'; simp
          split at h
          · rw [catK_eq] at h
            have hpl : Plain P g := by rw [Spec_iff] at h; exact h.1
            unfold Oper.wp
            rw [hcall g cv hf hpl]
            simp only [Oper.upon]
            rw [Spec_iff] at h
            rw [harr]
            refine (h.2 S F ρ _ w hM (hvs.append hcv)).mono ?_
            rintro e w' ⟨v, u, M', S', ρ', rfl, hK, h1, h2, h3, h4, h5⟩
            exact ⟨_, M', S', ρ', ⟨u, hK, rfl⟩, h1, h2, h3, (hF.mono h1 h2).put _ h4, h5⟩
          · rw [catK_eq] at h
            rw [callP_iff] at h
            obtain ⟨R, n, hspec, hp, _, hk⟩ := h
            have hS := Spec.of_pure (M := M) (K := K) (n := n) hspec hp hk
            have hpl : Plain P g := by rw [Spec_iff] at hS; exact hS.1
            unfold Oper.wp
            rw [hcall g cv hf hpl]
            simp only [Oper.upon]
            rw [Spec_iff] at hS
            rw [harr]
            refine (hS.2 S F ρ _ w hM (hvs.append hcv)).mono ?_
            rintro e w' ⟨v, u, M', S', ρ', rfl, hK, h1, h2, h3, h4, h5⟩
            exact ⟨_, M', S', ρ', ⟨u, hK, rfl⟩, h1, h2, h3, (hF.mono h1 h2).put _ h4, h5⟩
        · exact h.elim
    | invoke r m => exact rs (evR_ok hT hM a.eval _ hu) (evM_le draw tt _ _ _) h
    | builtin b =>
      cases b with
      | append =>
        have := appendK_ok (P := P) (S := S) (F := F) (ρ := ρ) (w := w) (ty := ty) hT h hM hu
        refine fin (m := Builtin.append_ tys.toList.toArray ty ((opnds (.call ⟨.builtin .append, args, tys⟩)).map a.eval).toArray) ?_ this
        simp only [execOp, resolve, opnds, Array.toArray_toList]
        have e : (args.toList.map a.eval).toArray = args.map a.eval := by apply Array.ext'; simp
        rw [e]
        rfl
      | _ => exact rs (evR_ok hT hM a.eval _ hu) (evM_le draw tt _ _ _) h
  | _ => exact rs (evR_ok hT hM a.eval _ hu) (evM_le draw tt _ _ _) h

/-! ### One step of a frame -/
def dstAt : List Oper → Nat → Option Tmp
  | [], _ => none
  | o :: _, 0 => o.dst
  | _ :: l, n + 1 => dstAt l n
theorem dstAt_eq : ∀ (l : List Oper) (n : Nat), dstAt l n = (l[n]?).bind (·.dst)
  | [], _ => by simp [dstAt]
  | _ :: _, 0 => by simp [dstAt]
  | _ :: l, n + 1 => by rw [dstAt, dstAt_eq l n]; simp
def boolK (b want : Bool) (kt kf : Prop) : Prop :=
  match b, want with
  | true, true => kt
  | false, false => kt
  | true, false => kf
  | false, true => kf
def guardK (all : List Oper) (fr : List AV) (g : Option (Nat × Bool)) (kt kf : Prop) : Prop :=
  match g with
  | none => kt
  | some (j, want) => match dstAt all j with
    | none => False
    | some d => getK fr d fun u => match u with
      | .bool b => boolK b want kt kf
      | .tup _ => kf
      | _ => False
def stepK (P : Program) (tt : TT) (draw : Option Bool) (all : List Oper) (o : Oper) (fr : List AV) (M : Mem) (K : List AV → Mem → Prop) : Prop :=
  guardK all fr o.guard (avsK fr (opnds o.op) fun us => semK P tt draw o us M fun u M' => putD fr o.dst u fun fr' => K fr' M') (putD fr o.dst (.tup []) fun fr' => K fr' M)

theorem guardK_ok {all : List Oper} {a : Act} {fr : List AV} {o : Oper} {kt kf : Prop} (h : guardK all fr o.guard kt kf) (hF : RepF S ρ a fr) :
    if Region.wanted o (yielded all.toArray a.tmps) then kt else kf := by
  unfold guardK at h
  unfold Region.wanted
  cases hg : o.guard with
  | none => rw [hg] at h; simpa using h
  | some p =>
    obtain ⟨j, want⟩ := p
    rw [hg] at h
    simp only at h
    simp only [dstAt_eq] at h
    split at h
    · exact h.elim
    · rename_i d hd
      rw [getK_eq] at h
      have hy : yielded all.toArray a.tmps j = match a.tmps[d]? with | some (.bool b) => some b | _ => none := by
        unfold yielded
        have : (all.toArray[j]?).bind (·.dst) = some d := by simpa using hd
        rw [this]
        rfl
      have hr : ∀ u, fr.getD d .top = u → u ≠ .top → ∃ v, a.tmps[d]? = some v ∧ RV S ρ v u := by
        intro u hu hne
        by_cases hl : d < fr.length
        · have hg : fr[d]? = some u := by rw [← hu]; simp [List.getD, hl]
          obtain ⟨v, hv, hr⟩ := hF.1.2 d u hg
          exact ⟨v, by simpa using hv, hr⟩
        · exact absurd (by rw [← hu]; simp [List.getD, hl]) hne
      split at h
      · rename_i b hb
        obtain ⟨v, hv, hvr⟩ := hr _ hb (by simp)
        rw [hv, hvr.bool_inv] at hy
        simp only at hy
        simp only [hy]
        cases b <;> cases want <;> simpa [boolK] using h
      · rename_i cs hb
        obtain ⟨v, hv, hvr⟩ := hr _ hb (by simp)
        obtain ⟨vs, rfl, _⟩ := hvr.tup_inv
        rw [hv] at hy
        simp only at hy
        simp only [hy]
        simpa using h
      · exact h.elim

theorem stepK_ok (hT : TOkB P tt = true) {draw : Option Bool} {all : List Oper} {o : Oper} {a : Act} {K : List AV → Mem → Prop} {Q : Exit → Act → World → Prop} {fr : List AV} (h : stepK P tt draw all o fr M K) (hM : RepM S F ρ M w) (hF : RepF S ρ a fr) :
    if Region.wanted o (yielded all.toArray a.tmps) then o.wp P a w (After S F ρ w K) Q else After S F ρ w K (a.put o.dst undef) w := by
  have := guardK_ok h hF
  split
  · rename_i hw
    rw [if_pos hw, avsK_eq] at this
    refine Oper.wp_mono (fun a' w' h' => ?_) (semK_ok (Q := Q) hT this hM hF (hF.evals _))
    exact h'.mono fun fr' M' ⟨u, hk, e⟩ => by rw [putD_eq] at hk; rw [e]; exact hk
  · rename_i hw
    rw [if_neg hw, putD_eq] at this
    exact ⟨_, M, S, ρ, this, Store.le_refl _, Env.le_refl _, hM, hF.put _ (RV.tup_mk (RVs.nil _ _)), Wle.refl _⟩

def opsK (P : Program) (tt : TT) (draw : Option Bool) (all : List Oper) : List Oper → List AV → Mem → (List AV → Mem → Prop) → Prop
  | [], fr, M, K => K fr M
  | o :: r, fr, M, K => stepK P tt draw all o fr M fun fr' M' => opsK P tt draw all r fr' M' K

theorem opsK_ok (hT : TOkB P tt = true) {all : List Oper} {K : List AV → Mem → Prop} {Q : Exit → Act → World → Prop} : ∀ (l : List Oper) (S : Store) (ρ : Env) (w : World) (a : Act) (fr : List AV) (M : Mem), opsK P tt none all l fr M K → RepM S F ρ M w → RepF S ρ a fr →
    (∀ a' w', After S F ρ w K a' w' → Q .normal a' w') → wpList P all.toArray Q l a w
  | [], S, ρ, w, a, fr, M, h, hM, hF, hQ => hQ _ _ ⟨fr, M, S, ρ, h, Store.le_refl _, Env.le_refl _, hM, hF, Wle.refl _⟩
  | o :: r, S, ρ, w, a, fr, M, h, hM, hF, hQ => by
    have hs := stepK_ok (Q := Q) hT h hM hF
    unfold wpList
    have next : ∀ a' w', After S F ρ w (fun fr' M' => opsK P tt none all r fr' M' K) a' w' → wpList P all.toArray Q r a' w' := by
      rintro a' w' ⟨fr', M', S', ρ', hk, h1, h2, h3, h4, h5⟩
      exact opsK_ok hT r S' ρ' w' a' fr' M' hk h3 h4 fun a'' w'' h' => hQ _ _ (h'.trans h1 h2 h5)
    split
    · rename_i hw
      rw [if_pos hw] at hs
      exact .inl (Oper.wp_mono next hs)
    · rename_i hw
      rw [if_neg hw] at hs
      exact next _ _ hs

end
end Go.Proofs.Ytihligeggkpolaa
