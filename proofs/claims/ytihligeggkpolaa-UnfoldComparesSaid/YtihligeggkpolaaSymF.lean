/-
  Building a struct; and all operations that change no memory in one statement.
-/
import Derived.Test.YtihligeggkpolaaSymE
namespace Go.Proofs.Ytihligeggkpolaa

section
variable {S : Store} {ρ : Env} {P : Program} {tt : TT} {w : World}

def spliceV (cells : List Value) (o : Nat) (cs : List Value) : List Value := cells.take o ++ (cs ++ cells.drop (o + cs.length))

theorem spliceV_get {α : Type _} {l cs : List α} {o : Nat} (h : o + cs.length ≤ l.length) (i : Nat) :
    (l.take o ++ (cs ++ l.drop (o + cs.length)))[i]? = if i < o then l[i]? else if i < o + cs.length then cs[i - o]? else l[i]? := by
  have hm : min o l.length = o := by omega
  split
  · rw [List.getElem?_append_left (by rw [List.length_take]; omega), List.getElem?_take, if_pos (by assumption)]
  · rw [List.getElem?_append_right (by rw [List.length_take]; omega), List.length_take, hm]
    split
    · rw [List.getElem?_append_left (by omega)]
    · rw [List.getElem?_append_right (by omega), List.getElem?_drop]
      congr 1
      omega

theorem foldl_set (xs : List Value) : ∀ (k o : Nat) (arr : Array Value), o + k + xs.length ≤ arr.size →
    ((xs.zipIdx k).foldl (fun cs (p : Value × Nat) => cs.setIfInBounds (o + p.2) p.1) arr).toList = spliceV arr.toList (o + k) xs := by
  induction xs with
  | nil => intro k o arr h; simp [spliceV]
  | cons x xs ih =>
    intro k o arr h
    simp only [List.length_cons] at h
    rw [List.zipIdx_cons, List.foldl_cons, ih (k + 1) o _ (by simp; omega)]
    apply List.ext_getElem?
    intro i
    unfold spliceV
    rw [spliceV_get (by simp; omega), spliceV_get (by simp; omega)]
    simp only [Array.toList_setIfInBounds, List.length_cons]
    by_cases h1 : i < o + k
    · rw [if_pos (by omega), if_pos h1, List.getElem?_set_ne (by omega)]
    · by_cases h2 : i = o + k
      · subst h2
        rw [if_pos (by omega), if_neg h1, if_pos (by omega), List.getElem?_set_self (by simp; omega)]
        simp
      · rw [if_neg (by omega), if_neg h1]
        by_cases h3 : i < o + k + (xs.length + 1)
        · rw [if_pos (by omega), if_pos h3, show i - (o + k) = (i - (o + (k + 1))) + 1 from by omega, List.getElem?_cons_succ]
        · rw [if_neg (by omega), if_neg h3, List.getElem?_set_ne (by omega)]

theorem RVs.splice_ {vs : List Value} {us : List AV} (h : RVs S ρ vs us) {xs : List Value} {cs : List AV} (hx : RVs S ρ xs cs) (o : Nat) : RVs S ρ (spliceV vs o xs) (splice us o cs) := by
  unfold spliceV splice
  have := hx.1
  rw [this]
  exact (h.take o).append (hx.append (h.drop _))

theorem cellsA_ok {u : AV} {cs : List AV} (h : cellsA u = some cs) {v : Value} (hv : RV S ρ v u) : RVs S ρ v.cells.toList cs ∧ (∀ x, cs = [x] → u = x ∨ (∃ y, u = .agg y)) := by
  have one : ∀ (v : Value), oneV v = true → v.cells.toList = [v] := by intro v hv; cases v <;> simp_all [oneV, Value.cells]
  have mk : ∀ (u : AV) (v : Value), oneV v = true → RV S ρ v u → RVs S ρ v.cells.toList [u] := fun u v ho hv => by rw [one v ho]; exact RVs.cons hv (RVs.nil _ _)
  cases u with
  | agg y =>
    simp only [cellsA, Option.some.injEq] at h; subst h
    obtain ⟨vs, rfl, hvs⟩ := hv.agg_inv
    exact ⟨hvs, fun _ _ => .inr ⟨_, rfl⟩⟩
  | top => simp [cellsA] at h
  | tup _ => simp [cellsA] at h
  | val x =>
    simp only [cellsA] at h
    split at h
    · rename_i ho
      simp only [Option.some.injEq] at h; subst h
      have := hv.val_inv
      subst this
      exact ⟨mk _ _ ho hv, fun x hx => .inl (by simpa using hx)⟩
    · simp at h
  | int k n => simp only [cellsA, Option.some.injEq] at h; subst h; exact ⟨mk _ _ (by rw [hv.int_inv]; rfl) hv, fun x hx => .inl (by simpa using hx)⟩
  | bool b => simp only [cellsA, Option.some.injEq] at h; subst h; exact ⟨mk _ _ (by rw [hv.bool_inv]; rfl) hv, fun x hx => .inl (by simpa using hx)⟩
  | str b => simp only [cellsA, Option.some.injEq] at h; subst h; exact ⟨mk _ _ (by rw [hv.str_inv]; rfl) hv, fun x hx => .inl (by simpa using hx)⟩
  | nilsl => simp only [cellsA, Option.some.injEq] at h; subst h; exact ⟨mk _ _ (by rw [hv.nilsl_inv]; rfl) hv, fun x hx => .inl (by simpa using hx)⟩
  | sl d enc l => simp only [cellsA, Option.some.injEq] at h; subst h; exact ⟨mk _ _ (by obtain ⟨b, c, rfl, _⟩ := sl_form hv.sl_inv; rfl) hv, fun x hx => .inl (by simpa using hx)⟩
  | pd c => simp only [cellsA, Option.some.injEq] at h; subst h; exact ⟨mk _ _ (by cases hv.pd_inv; rfl) hv, fun x hx => .inl (by simpa using hx)⟩
  | fn f c => simp only [cellsA, Option.some.injEq] at h; subst h; exact ⟨mk _ _ (by obtain ⟨vs, rfl, _⟩ := hv.fn_inv; rfl) hv, fun x hx => .inl (by simpa using hx)⟩
  | ptr a b => simp only [cellsA, Option.some.injEq] at h; subst h; exact ⟨mk _ _ (by obtain ⟨b, _, rfl⟩ := hv.ptr_inv; rfl) hv, fun x hx => .inl (by simpa using hx)⟩
  | row a b c => simp only [cellsA, Option.some.injEq] at h; subst h; exact ⟨mk _ _ (by obtain ⟨b, _, _, _, _, rfl⟩ := hv.row_inv; rfl) hv, fun x hx => .inl (by simpa using hx)⟩
  | rel a b c => simp only [cellsA, Option.some.injEq] at h; subst h; exact ⟨mk _ _ (by obtain ⟨b, _, _, rfl⟩ := hv.rel_inv; rfl) hv, fun x hx => .inl (by simpa using hx)⟩

theorem constA_ok (v : Value) : RP S v (constA v) := by
  unfold constA
  split <;> first | exact .int _ _ | exact .bool _ | exact .str _ | exact .nilsl | exact .val _
theorem constA_list (z : List Value) : RVs S ρ z (z.map constA) :=
  ⟨by simp, fun i u hu => by
    rw [List.getElem?_map] at hu
    obtain ⟨v, hv, rfl⟩ := Option.map_eq_some_iff.1 hu
    exact ⟨v, hv, .p (constA_ok v)⟩⟩

theorem fillA_ok (hT : TOkB P tt = true) {fs : List (Nat × TypeId)} {place : Nat → Option (Nat × Nat)}
    (hp : ∀ i o ft, nth fs i = some (o, ft) → place i = some (o, P.cellsOf ft)) :
    ∀ (is : List Nat) (us : List AV) (cells : List AV) (arr : Array Value) (vs : List Value), RVs S ρ arr.toList cells → RVs S ρ vs us → ∀ cs, fillA tt fs is us cells = some cs →
      ∃ arr', Instr.fill place arr (is.zip vs) = some arr' ∧ RVs S ρ arr'.toList cs := by
  intro is
  induction is with
  | nil =>
    intro us cells arr vs harr hvs cs h
    cases us with
    | nil => simp only [fillA, Option.some.injEq] at h; subst h; exact ⟨arr, by simp [Instr.fill], harr⟩
    | cons u us => simp [fillA] at h
  | cons i is ih =>
    intro us cells arr vs harr hvs cs h
    cases us with
    | nil => simp [fillA] at h
    | cons u us =>
      obtain ⟨v, vs, rfl, hv, hvs⟩ := hvs.cons_inv
      simp only [fillA] at h
      split at h
      · rename_i o ft hn
        split at h
        · rename_i xs x hxs hx
          split at h
          · rename_i h1 h2
            have h1 := Nat.eq_of_beq_eq_true h1
            have h2 := Nat.le_of_ble_eq_true h2
            obtain ⟨hc, _⟩ := cellsA_ok hxs hv
            obtain ⟨y, z, hy, hy1, _⟩ := TOk.info hT hx
            have hcell : P.cellsOf ft = x.size := by simp [Program.cellsOf, hy, hy1]
            have hl1 := hc.1
            have hl2 := harr.1
            simp only [Array.length_toList] at hl1 hl2
            have hset := foldl_set v.cells.toList 0 o arr (by simp; omega)
            simp only [Nat.add_zero] at hset
            obtain ⟨arr', hf, hr⟩ := ih us _ (v.cells.zipIdx.foldl (fun cs (p : Value × Nat) => cs.setIfInBounds (o + p.2) p.1) arr) vs (by
              have e : (v.cells.zipIdx.foldl (fun cs (p : Value × Nat) => cs.setIfInBounds (o + p.2) p.1) arr).toList = spliceV arr.toList o v.cells.toList := by
                rw [← hset, ← Array.foldl_toList, Array.toList_zipIdx]
              rw [e]
              exact harr.splice_ hc o) hvs cs h
            refine ⟨arr', ?_, hr⟩
            simp only [List.zip_cons_cons, Instr.fill, hp _ _ _ hn]
            rw [if_neg (by simp; omega)]
            exact hf
          · simp at h
        · simp at h
      · simp at h

theorem run_mapM_pure {α β : Type} (g : α → Sem β) (h : α → β) : ∀ (l : List α), (∀ a ∈ l, (g a).run P w = .ok (h a) w) → (l.mapM g).run P w = .ok (l.map h) w
  | [], _ => by simp
  | a :: l, hl => by
    have h1 := hl a (by simp)
    have h2 := run_mapM_pure g h l (fun b hb => hl b (by simp [hb]))
    simp [List.mapM_cons, h1, h2]

theorem evBuild_ok (hT : TOkB P tt = true) {t : TypeId} {is : List Nat} {us : List AV} {vs : List Value} (hvs : RVs S ρ vs us) :
    RsOkV S ρ P w (Instr.build t (is.zip vs).toArray) (evBuild tt t is us) := by
  unfold evBuild
  split
  · rename_i sz by_ fs z ht
    obtain ⟨gs, hgs, he, hpos⟩ := TOk.struct hT ht
    obtain ⟨x, zv, hx, _, _, hz, hzc, hag, _⟩ := TOk.info hT ht
    split
    · rename_i cs hf
      have hplaces : (gs.mapM fun (f : Field) => do pure (f.offset, ← Go.sizeOf f.type) : Sem _).run P w = .ok (gs.map fun (f : Field) => (f.offset, P.cellsOf f.type)) w := by
        rw [Array.mapM_eq_mapM_toList]
        have := run_mapM_pure (P := P) (w := w) (fun f : Field => do pure (f.offset, ← Go.sizeOf f.type)) (fun f => (f.offset, P.cellsOf f.type)) gs.toList (fun f hf => by
          obtain ⟨_, y, hy⟩ := hpos f hf
          simp [run_sizeOf w hy])
        rw [Sem.run_map, this]
        simp only [Result.andThen_ok]
        congr 1
        apply Array.ext'
        simp
      obtain ⟨arr', h1, h2⟩ := fillA_ok (S := S) (ρ := ρ) hT (fs := fs) (place := fun i => (gs.map fun (f : Field) => (f.offset, P.cellsOf f.type))[i]?) (fun i o ft hn => by
        rw [nth_eq, ← he, List.getElem?_map] at hn
        obtain ⟨g, hg, hgo⟩ := Option.map_eq_some_iff.1 hn
        injection hgo with ho ht'
        subst ho; subst ht'
        have hg' : gs[i]? = some g := by simpa using hg
        simp [hg']) is us _ zv.cells vs (by rw [hzc]; exact constA_list z) hvs cs hf
      refine ⟨.agg arr', ?_, ?_⟩
      · simp only [Instr.build, zeroValue, typeInfo, Sem.run_bind, run_program, Result.andThen_ok, hx, Sem.run_pure, hz, run_underlying hgs, hplaces, List.toList_toArray, h1]
      · have := RV.agg_mk h2
        simpa using this
    · trivial
  · trivial


theorem evN_ok (hT : TOkB P tt = true) (ev : Operand → Value) (o : Oper) {us : List AV} (hu : RVs S ρ ((opnds o.op).map ev) us) : RsOk S ρ P w (execOp ev o) (evN tt o.op us) := by
  obtain ⟨dst, op, ty, ps, af, gd⟩ := o
  have inv1 : ∀ {x : Operand} {us : List AV}, RVs S ρ ([x].map ev) us → ∃ u, us = [u] ∧ RV S ρ (ev x) u := by
    intro x us h
    cases us with
    | nil => simp [RVs] at h
    | cons u us =>
      obtain ⟨v, vs, e, hv, hvs⟩ := h.cons_inv
      simp only [List.map_cons, List.map_nil, List.cons.injEq] at e
      obtain ⟨rfl, rfl⟩ := e
      have h0 : us = [] := List.eq_nil_of_length_eq_zero (by have := hvs.1; simpa using this.symm)
      subst h0
      exact ⟨u, rfl, hv⟩
  have inv2 : ∀ {x y : Operand} {us : List AV}, RVs S ρ ([x, y].map ev) us → ∃ u v, us = [u, v] ∧ RV S ρ (ev x) u ∧ RV S ρ (ev y) v := by
    intro x y us h
    cases us with
    | nil => simp [RVs] at h
    | cons u us =>
      obtain ⟨v, vs, e, hv, hvs⟩ := h.cons_inv
      simp only [List.map_cons, List.map_nil, List.cons.injEq] at e
      obtain ⟨rfl, rfl⟩ := e
      obtain ⟨u', rfl, hu'⟩ := inv1 (x := y) hvs
      exact ⟨u, u', rfl, hv, hu'⟩
  have inv3 : ∀ {x y z : Operand} {us : List AV}, RVs S ρ ([x, y, z].map ev) us → ∃ u v r, us = [u, v, r] ∧ RV S ρ (ev x) u ∧ RV S ρ (ev y) v ∧ RV S ρ (ev z) r := by
    intro x y z us h
    cases us with
    | nil => simp [RVs] at h
    | cons u us =>
      obtain ⟨v, vs, e, hv, hvs⟩ := h.cons_inv
      simp only [List.map_cons, List.map_nil, List.cons.injEq] at e
      obtain ⟨rfl, rfl⟩ := e
      obtain ⟨u', u'', rfl, hu', hu''⟩ := inv2 (x := y) (y := z) hvs
      exact ⟨u, u', u'', rfl, hv, hu', hu''⟩
  cases op with
  | move x => obtain ⟨u, rfl, h⟩ := inv1 (x := x) hu; exact ⟨ev x, rfl, h⟩
  | assign x => obtain ⟨u, rfl, h⟩ := inv1 (x := x) hu; exact ⟨ev x, rfl, h⟩
  | pick c a b =>
    obtain ⟨u, v, r, rfl, h1, h2, h3⟩ := inv3 (x := c) (y := a) (z := b) hu
    simp only [evN]
    split
    · rename_i e; simp only [List.cons.injEq] at e; obtain ⟨rfl, rfl, rfl, _⟩ := e
      exact ⟨ev a, by simp [execOp, h1.bool_inv, asBool], h2⟩
    · rename_i e; simp only [List.cons.injEq] at e; obtain ⟨rfl, rfl, rfl, _⟩ := e
      exact ⟨ev b, by simp [execOp, h1.bool_inv, asBool], h3⟩
    · trivial
  | binOp op t x y yt => obtain ⟨u, v, rfl, h1, h2⟩ := inv2 (x := x) (y := y) hu; exact (evBin_ok hT op t x y h1 h2).next
  | unOp op t x => obtain ⟨u, rfl, h⟩ := inv1 (x := x) hu; exact (evUn_ok op h).next
  | convert s d x =>
    obtain ⟨u, rfl, h⟩ := inv1 (x := x) hu
    simp only [evN]
    cases hs : tt.find s with
    | none => trivial
    | some i => exact (evConv_ok hT hs h).next
  | fieldAddr s x f => obtain ⟨u, rfl, h⟩ := inv1 (x := x) hu; exact (evFieldAddr_ok hT h).next
  | field s x f => obtain ⟨u, rfl, h⟩ := inv1 (x := x) hu; exact (evField_ok hT h).next
  | indexAddr t x i => obtain ⟨u, v, rfl, h1, h2⟩ := inv2 (x := x) (y := i) hu; exact (evIndexAddr_ok hT h1 h2).next
  | index t x i => obtain ⟨u, v, rfl, h1, h2⟩ := inv2 (x := x) (y := i) hu; exact (evIndex_ok hT h1 h2).next
  | nilCheck x => obtain ⟨u, rfl, h⟩ := inv1 (x := x) hu; exact evNilCheck_ok h
  | extract x i => obtain ⟨u, rfl, h⟩ := inv1 (x := x) hu; exact (evExtract_ok h).next
  | slice t x lo hi mx =>
    cases mx with
    | some m => trivial
    | none =>
      cases lo with
      | none =>
        cases hi with
        | none =>
          obtain ⟨u, rfl, h⟩ := inv1 (x := x) hu
          exact (evSlice_ok hT h none none none none (by simp) (by simp) (by simp) (by simp)).next
        | some b =>
          obtain ⟨u, v, rfl, h1, h2⟩ := inv2 (x := x) (y := b) hu
          exact (evSlice_ok hT h1 none (some v) none (some (ev b)) (by simp) (by simp) (fun x e => ⟨ev b, rfl, by simp at e; subst e; exact h2⟩) (by simp)).next
      | some a =>
        cases hi with
        | none =>
          obtain ⟨u, v, rfl, h1, h2⟩ := inv2 (x := x) (y := a) hu
          exact (evSlice_ok hT h1 (some v) none (some (ev a)) none (fun x e => ⟨ev a, rfl, by simp at e; subst e; exact h2⟩) (by simp) (by simp) (by simp)).next
        | some b =>
          obtain ⟨u, v, r, rfl, h1, h2, h3⟩ := inv3 (x := x) (y := a) (z := b) hu
          exact (evSlice_ok hT h1 (some v) (some r) (some (ev a)) (some (ev b)) (fun x e => ⟨ev a, rfl, by simp at e; subst e; exact h2⟩) (by simp) (fun x e => ⟨ev b, rfl, by simp at e; subst e; exact h3⟩) (by simp)).next
  | build t ps =>
    have hz : ((ps.toList.map (·.1)).zip ((ps.toList.map (·.2)).map ev)).toArray = ps.map fun (i, x) => (i, ev x) := by
      apply Array.ext'
      simp only [List.toList_toArray, Array.toList_map, List.map_map]
      rw [List.zip_map', ]
      rfl
    have := evBuild_ok (P := P) (w := w) (t := t) (is := ps.toList.map (·.1)) (vs := (ps.toList.map (·.2)).map ev) hT hu
    rw [hz] at this
    exact this.next
  | makeFunc fn fst caps =>
    cases fn with
    | func f =>
      simp only [evN]
      split
      · rename_i hf
        have : fst = #[] := by cases fst; simp_all
        subst this
        have h2 := RV.fn_mk f hu
        refine ⟨_, by simp [execOp, Instr.makeFunc]; rfl, ?_⟩
        have e : (List.map ev (opnds (.makeFunc (.func f) #[] caps))).toArray = caps.map ev := by apply Array.ext'; simp [opnds]
        rw [e] at h2
        exact h2
      · trivial
    | _ => trivial
  | call c =>
    obtain ⟨callee, args, tys⟩ := c
    cases callee with
    | builtin b =>
      cases b with
      | len =>
        simp only [evN]
        split
        · rename_i t x ht
          have ht : tys = #[t] := by cases tys; simp_all
          subst ht
          obtain ⟨v, vs, e, hv, hvs⟩ := hu.cons_inv
          have hvs0 := hvs.nil_inv
          subst hvs0
          have : args.map ev = #[v] := by apply Array.ext'; simpa [opnds] using e
          have h2 := (evLen_ok (P := P) (w := w) (t := t) (ty := ty) hT hv).next
          unfold execOp
          simp only [resolve, this]
          simpa [invoke, builtin] using h2
        · trivial
      | max =>
        simp only [evN]
        split
        · rename_i k a k' b
          obtain ⟨v, vs, e, hv, hvs⟩ := hu.cons_inv
          obtain ⟨v', vs', e', hv', hvs'⟩ := hvs.cons_inv
          have hvs0 := hvs'.nil_inv
          subst hvs0
          subst e'
          cases hv.int_inv; cases hv'.int_inv
          have : args.map ev = #[.int k a, .int k' b] := by apply Array.ext'; simpa [opnds] using e
          refine ⟨.int k (if b > a then b else a), ?_, .p (.int _ _)⟩
          simp [execOp, resolve, this, invoke, builtin, Builtin.max_, Builtin.max2]
        · trivial
      | min =>
        simp only [evN]
        split
        · rename_i k a k' b
          obtain ⟨v, vs, e, hv, hvs⟩ := hu.cons_inv
          obtain ⟨v', vs', e', hv', hvs'⟩ := hvs.cons_inv
          have hvs0 := hvs'.nil_inv
          subst hvs0
          subst e'
          cases hv.int_inv; cases hv'.int_inv
          have : args.map ev = #[.int k a, .int k' b] := by apply Array.ext'; simpa [opnds] using e
          refine ⟨.int k (if b < a then b else a), ?_, .p (.int _ _)⟩
          simp [execOp, resolve, this, invoke, builtin, Builtin.min_, Builtin.min2]
        · trivial
      | _ => trivial
    | _ => trivial
  | _ => trivial

theorem evR_ok {F : Store} {M : Mem} (hT : TOkB P tt = true) (hM : RepM S F ρ M w) (ev : Operand → Value) (o : Oper) {us : List AV} (hu : RVs S ρ ((opnds o.op).map ev) us) : RsOk S ρ P w (execOp ev o) (evR tt o.op us M) := by
  unfold evR
  split
  · rename_i t x hx
    split
    · rename_i u
      rw [hx] at hu
      obtain ⟨v, vs, e, hv, hvs⟩ := hu.cons_inv
      have hvs0 := hvs.nil_inv
      subst hvs0
      simp only [opnds, List.map_cons, List.map_nil, List.cons.injEq, and_true] at e
      subst e
      have := (evLoad_ok (t := t) hT hM hv).next
      unfold execOp
      rw [hx]
      exact this
    · trivial
  · exact evN_ok hT ev o hu

end
end Go.Proofs.Ytihligeggkpolaa
