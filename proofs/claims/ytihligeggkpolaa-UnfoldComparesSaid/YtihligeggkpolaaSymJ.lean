/-
  make, a slice literal, append: the model's run leaves what the abstract operation says.
-/
import Derived.Test.YtihligeggkpolaaSymI
namespace Go.Proofs.Ytihligeggkpolaa

section
variable {S F : Store} {ρ : Env} {M : Mem} {w : World} {P : Program} {tt : TT}

theorem constA_map_get {z : List Value} {j : Nat} {u : AV} (h : (z.map constA)[j]? = some u) : ∃ v, z[j]? = some v ∧ RP S v u := by
  rw [List.getElem?_map] at h
  obtain ⟨v, hv, rfl⟩ := Option.map_eq_some_iff.1 h
  exact ⟨v, hv, constA_ok v⟩

theorem makeK_ok (hT : TOkB P tt = true) {t : TypeId} {dst : Option Tmp} {K : AV → Mem → Prop} {us : List AV} {vl vc : Value} (h : makeK tt t us dst M K) (hM : RepM S F ρ M w) (hv : RVs S ρ [vl, vc] us) : Leaves P S F ρ w (Instr.makeSlice t vl vc) K := by
  unfold makeK at h
  split at h
  · rename_i d n c sz0 by0 e z0 ht
    obtain ⟨y, ys, e1, hn, hv⟩ := hv.cons_inv
    injection e1 with e1 e2; subst e1; subst e2
    obtain ⟨y, ys, e1, hc, _⟩ := hv.cons_inv
    injection e1 with e1 _; subst e1
    cases hn.int_inv; cases hc.int_inv
    have hte := TOk.slice hT ht
    split at h
    · rename_i i hd hi
      obtain ⟨x, z, hx, hxs, hxb, hz, hzc, _, hzl⟩ := TOk.info hT hi
      split at h
      · rename_i m hp hbm
        have hbpos : 0 < i.bytes := by rw [hbm]; omega
        rw [mkK_iff] at h
        obtain ⟨⟨h0, h1, h2⟩, α, dd, enc, zz, henc, hK⟩ := h
        have hc47 : c ≤ 140737488355328 := by
          have : c * 1 ≤ c * (i.bytes : Int) := Int.mul_le_mul_of_nonneg_left (by omega) (by omega)
          omega
        have wn : IntKind.i64.wrap n = n := i64_wrap (by omega)
        have wc : IntKind.i64.wrap c = c := i64_wrap (by omega)
        let b : Lab := ⟨w.heap.size, n.toNat, c.toNat, i.size, false⟩
        let zero : Array Value := if c.toNat * i.size = 0 then #[] else z.cells
        let arr : Array Value := (Array.range (c.toNat * i.size)).map (zero[· % zero.size]!)
        have harr : arr.size = c.toNat * i.size := by simp [arr]
        refine ⟨.slice (some ⟨w.heap.size, 0, none⟩) n.toNat c.toNat, _, _, S, Env.set ρ d b, w.alloc (.cells arr e), ?_, hK, Store.le_refl _, Env.set_le _ (hM.fresh hd), hM.alloc hd _ e b _ (fun _ => rfl) ?_, ?_, Wle.alloc_cells _ _ _⟩
        · have t1 : (decide (c < 0) || decide ((i.bytes : Int) * c > 2 ^ 48)) = false := by
            simp only [Bool.or_eq_false_iff, decide_eq_false_iff_not]
            refine ⟨by omega, ?_⟩
            rw [Int.mul_comm]
            have : (2 : Int) ^ 48 = 281474976710656 := by decide
            omega
          have hsz : (Go.sizeOf e).run P w = .ok i.size w := TOk.size hT hi w
          have hcell : (c.toNat * i.size = 0 ∨ c.toNat * i.size ≠ 0) := by omega
          simp only [Instr.makeSlice, Sem.run_bind, run_underlying hte, Result.andThen_ok, asInt, asIntOf, Sem.run_pure, typeInfo, run_program, hx, hxb, wn, wc, t1, Bool.false_or, Sem.run_ite]
          have t2 : (decide (n < 0) || decide (n > c)) = false := by
            simp only [Bool.or_eq_false_iff, decide_eq_false_iff_not]; omega
          rw [if_neg (by simpa using t2)]
          simp only [Sem.run_pure, Result.andThen_ok, Sem.run_bind, run_askRoom, hsz, Sem.run_ite]
          rcases hcell with h' | h'
          · simp only [h', if_true, Sem.run_pure, Result.andThen_ok, newRow, Sem.run_bind, run_newObj]
            simp only [arr, zero, h', if_true]
            rfl
          · simp only [h', if_false, zeroValue, typeInfo, Sem.run_bind, run_program, hx, hz, Sem.run_pure, Result.andThen_ok, newRow, run_newObj]
            simp only [arr, zero, h', if_false]
            rfl
        · refine ⟨by simp [b], fun a ha => ?_, .inr ⟨rfl, by simp [b]; omega, arr, heap_push_new _ _, harr, fun k a j u hk hu => ?_, Store.inW_size hM.sw, Store.inW_size hM.fw⟩⟩
          · rw [List.eq_of_mem_replicate ha, henc]; exact ⟨by simpa [b] using hzl, (allPers_ok (S := S) (ρ := ρ) hp (constA_list _)).2⟩
          · have hk' : k < n.toNat := by have := (List.getElem?_eq_some_iff.1 hk).1; simpa using this
            have ha : a = zz := List.eq_of_mem_replicate (List.mem_of_getElem? hk)
            subst ha
            rw [henc] at hu
            obtain ⟨v, hv, hr⟩ := constA_map_get (S := S) hu
            refine ⟨v, ?_, hr⟩
            have hj : j < i.size := by rw [← hzl]; exact (List.getElem?_eq_some_iff.1 hv).1
            have hlt : k * i.size + j < c.toNat * i.size := by
              have : (k + 1) * i.size ≤ c.toNat * i.size := Nat.mul_le_mul_right _ (by omega)
              rw [Nat.add_mul] at this; omega
            have hne : c.toNat * i.size ≠ 0 := by omega
            show arr[k * i.size + j]? = some v
            have hzs : z.cells.size = i.size := by rw [← Array.length_toList, hzc, hzl]
            have hmod : (k * i.size + j) % i.size = j := by rw [Nat.mul_comm, Nat.mul_add_mod]; exact Nat.mod_eq_of_lt hj
            have hzj : z.cells[j]? = some v := by rw [← hzc] at hv; simpa using hv
            simp only [arr, zero, hne, if_false]
            simp [hlt, hzs, hmod]
            obtain ⟨hjl, hjv⟩ := Array.getElem?_eq_some_iff.1 hzj
            rw [getElem!_pos z.cells j hjl]; exact hjv
        · have := RV.row (S := S) (ρ := Env.set ρ d b) d n.toNat i.size b (Env.set_eq _ _ _) rfl rfl (by simp [b])
          exact this
      · exact h.elim
    · exact h.elim
  · exact h.elim

theorem leakLL_ok : ∀ (css : List (List AV)) (vss : List (List Value)) (S : Store) (M : Mem) (K : List (List AV) → Mem → Prop), leakLL css M K → vss.length = css.length →
    (∀ (i : Nat) cs vs, css[i]? = some cs → vss[i]? = some vs → RVs S ρ vs cs) → RepM S F ρ M w →
    ∃ css' M' S', K css' M' ∧ S.le S' ∧ vss.length = css'.length ∧ (∀ (i : Nat) cs vs, css'[i]? = some cs → vss[i]? = some vs → RVs S' ρ vs cs) ∧ RepM S' F ρ M' w ∧ (∀ x B, M x = some B → ∃ B', M' x = some B')
  | [], vss, S, M, K, h, hl, hv, hM => ⟨[], M, S, h, Store.le_refl _, hl, by simp, hM, fun x B hx => ⟨B, hx⟩⟩
  | cs :: r, vss, S, M, K, h, hl, hv, hM => by
    cases vss with
    | nil => simp at hl
    | cons vs vss =>
      simp only [leakLL] at h
      obtain ⟨cs', M1, S1, h1, hle1, hv1, hM1, hd1⟩ := leakK_ok _ _ _ _ _ h (hv 0 cs vs (by simp) (by simp)) hM
      obtain ⟨css', M', S', hK, hle2, hlen, hv2, hM2, hd2⟩ := leakLL_ok r vss S1 M1 _ h1 (by simpa using hl) (fun i cs vs h1 h2 => (hv (i + 1) cs vs (by simpa using h1) (by simpa using h2)).mono hle1 (Env.le_refl _)) hM1
      refine ⟨_, M', S', hK, Store.le_trans hle1 hle2, by simp [hlen], fun i cs vs h1 h2 => ?_, hM2, fun x B hx => ?_⟩
      · cases i with
        | zero => simp at h1 h2; subst h1; subst h2; exact hv1.mono hle2 (Env.le_refl _)
        | succ i => exact hv2 i cs vs (by simpa using h1) (by simpa using h2)
      · obtain ⟨B1, hB1⟩ := hd1 x B hx; exact hd2 x B1 hB1

theorem cellsAll_ok {n : Nat} : ∀ {us : List AV} {css : List (List AV)} {vs : List Value}, cellsAll n us = some css → RVs S ρ vs us →
    css.length = us.length ∧ (∀ v ∈ vs, v.cells.size = n) ∧ ∀ (i : Nat) cs v, css[i]? = some cs → (vs.map (fun v => v.cells.toList))[i]? = some v → RVs S ρ v cs
  | [], css, vs, h, hv => by
    simp only [cellsAll, Option.some.injEq] at h; subst h
    rw [hv.nil_inv]; simp
  | u :: us, css, vs, h, hv => by
    obtain ⟨x, xs, rfl, hx, hxs⟩ := hv.cons_inv
    simp only [cellsAll] at h
    split at h
    · rename_i cs r hcs hr
      split at h
      · rename_i hlen
        have hlen := Nat.eq_of_beq_eq_true hlen
        simp only [Option.some.injEq] at h; subst h
        obtain ⟨h1, h2, h3⟩ := cellsAll_ok hr hxs
        obtain ⟨hc, _⟩ := cellsA_ok hcs hx
        refine ⟨by simp [h1], fun v hv => ?_, fun i cs' v hi hv => ?_⟩
        · rcases List.mem_cons.1 hv with rfl | hv
          · have := hc.1; simp only [Array.length_toList] at this; omega
          · exact h2 v hv
        · cases i with
          | zero => simp at hi hv; subst hi; subst hv; exact hc
          | succ i => exact h3 i cs' v (by simpa using hi) (by simpa using hv)
      · simp at h
    · simp at h

theorem isRange_eq : ∀ (is : List Nat) (k : Nat), isRange is k = true → is = List.range' k is.length
  | [], k, _ => by simp
  | i :: r, k, h => by
    simp only [isRange] at h
    split at h
    · rename_i hi
      have := Nat.eq_of_beq_eq_true hi
      subst this
      rw [List.length_cons, List.range'_succ, ← isRange_eq r (i + 1) h]
    · simp at h

theorem fill_range (size : Nat) : ∀ (vs : List Value) (k : Nat) (arr : Array Value), (∀ v ∈ vs, v.cells.size = size) → (k + vs.length) * size ≤ arr.size →
    ∃ arr', Instr.fill (fun i => some (i * size, size)) arr ((List.range' k vs.length).zip vs) = some arr' ∧ arr'.size = arr.size ∧ (∀ i, i < k * size → arr'[i]? = arr[i]?) ∧
      ∀ (m : Nat) v j, vs[m]? = some v → j < size → arr'[(k + m) * size + j]? = v.cells[j]?
  | [], k, arr, _, _ => ⟨arr, by simp [Instr.fill], rfl, fun _ _ => rfl, by simp⟩
  | v :: vs, k, arr, hs, hl => by
    have hv := hs v (by simp)
    have hkl : (k + 1 + vs.length) * size ≤ arr.size := by simpa [Nat.add_assoc, Nat.add_comm, Nat.add_left_comm] using hl
    have hk1 : (k + 1) * size ≤ arr.size := Nat.le_trans (Nat.mul_le_mul_right _ (by omega)) hkl
    rw [Nat.add_mul] at hk1
    let arr1 := v.cells.zipIdx.foldl (fun cs (p : Value × Nat) => cs.setIfInBounds (k * size + p.2) p.1) arr
    have e1 : arr1.toList = spliceV arr.toList (k * size) v.cells.toList := by
      have := foldl_set v.cells.toList 0 (k * size) arr (by simp; omega)
      simp only [Nat.add_zero] at this
      rw [← this]
      show (Array.foldl (fun cs (p : Value × Nat) => cs.setIfInBounds (k * size + p.2) p.1) arr v.cells.zipIdx).toList = _
      rw [← Array.foldl_toList, Array.toList_zipIdx]
    have hget : ∀ i, arr1[i]? = if i < k * size then arr[i]? else if i < k * size + size then v.cells[i - k * size]? else arr[i]? := by
      intro i
      have : arr1[i]? = arr1.toList[i]? := by simp
      rw [this, e1]
      unfold spliceV
      rw [spliceV_get (by simp; omega)]
      simp [hv]
    have hsz1 : arr1.size = arr.size := by
      rw [← Array.length_toList, e1]
      unfold spliceV
      rw [splice_length (by simp; omega)]
      simp
    obtain ⟨arr', hf, h1, h2, h3⟩ := fill_range size vs (k + 1) arr1 (fun x hx => hs x (by simp [hx])) (by rw [hsz1]; exact hkl)
    refine ⟨arr', ?_, h1.trans hsz1, fun i hi => ?_, fun m x j hm hj => ?_⟩
    · rw [List.length_cons, List.range'_succ, List.zip_cons_cons]
      simp only [Instr.fill]
      rw [if_neg (by simp; omega)]
      exact hf
    · rw [h2 i (by rw [Nat.add_mul]; omega), hget, if_pos hi]
    · cases m with
      | zero =>
        simp at hm; subst hm
        rw [Nat.add_zero, h2 _ (by rw [Nat.add_mul]; omega), hget, if_neg (by omega), if_pos (by omega)]
        congr 1; omega
      | succ m =>
        have := h3 m x j (by simpa using hm) hj
        rw [← this]
        congr 2
        rw [show k + (m + 1) = k + 1 + m from by omega]

theorem allPers2_get : ∀ {css : List (List AV)}, allPers2 css = true → ∀ (i : Nat) cs, css[i]? = some cs → allPers cs = true
  | [], _, i, cs, h => by simp at h
  | c :: r, h, i, cs, hi => by
    simp only [allPers2] at h
    split at h
    · rename_i hp
      cases i with
      | zero => simp at hi; subst hi; exact hp
      | succ i => exact allPers2_get h i cs (by simpa using hi)
    · simp at h
theorem intsOf_eq : ∀ {css : List (List AV)} {ns : List Int}, intsOf css = some ns → ns.map encI = css
  | [], ns, h => by simp only [intsOf, Option.some.injEq] at h; subst h; rfl
  | c :: r, ns, h => by
    unfold intsOf at h
    split at h
    · rename_i e; cases e
    · rename_i n r' e
      injection e with e1 e2
      subst e1; subst e2
      split at h
      · rename_i l hl
        simp only [Option.some.injEq] at h; subst h
        rw [List.map_cons, intsOf_eq hl]; rfl
      · simp at h
    · simp at h

theorem buildK_ok (hT : TOkB P tt = true) {t : TypeId} {len : Nat} {is : List Nat} {dst : Option Tmp} {K : AV → Mem → Prop} {us : List AV} {vs : List Value} (h : buildK tt t len is us dst M K) (hM : RepM S F ρ M w) (hv : RVs S ρ vs us)
    (hlen : is.length = vs.length) : Leaves P S F ρ w (Instr.buildSlice t len (is.zip vs).toArray) K := by
  unfold buildK at h
  split at h
  · rename_i d sz0 by0 e z0 ht
    have hte := TOk.slice hT ht
    split at h
    · rename_i i hi
      obtain ⟨x, z, hx, hxs, hxb, hz, hzc, _, hzl⟩ := TOk.info hT hi
      split at h
      · rename_i css0 hr hl hle hcs
        have hl := Nat.eq_of_beq_eq_true hl
        have hle := Nat.le_of_ble_eq_true hle
        have his := isRange_eq is 0 hr
        obtain ⟨hcl, hcsz, hcr⟩ := cellsAll_ok hcs hv
        obtain ⟨css, M', S', h, hS', hlen', hcr', hM', _⟩ := leakLL_ok css0 (vs.map fun v => v.cells.toList) S M _ h (by simp [hcl, hv.1]) hcr hM
        split at h
        · rename_i hd
          split at h
          · rename_i hp
            have hsz : (Go.sizeOf e).run P w = .ok i.size w := TOk.size hT hi w
            let zero : Array Value := if len * i.size = 0 then #[] else z.cells
            let arr : Array Value := (Array.range (len * i.size)).map (zero[· % zero.size]!)
            have harr : arr.size = len * i.size := by simp [arr]
            obtain ⟨arr', hf, hs', _, hg'⟩ := fill_range i.size vs 0 arr hcsz (by rw [harr]; simp; rw [← hlen, hl]; exact Nat.le_refl _)
            have his' : is = List.range' 0 vs.length := by rw [← hlen]; exact his
            have hrun : (Instr.buildSlice t len (is.zip vs).toArray).run P w = .ok (.slice (some ⟨w.heap.size, 0, none⟩) len len) (w.alloc (.cells arr' e)) := by
              rw [his']
              simp only [Instr.buildSlice, Sem.run_bind, run_underlying hte, Result.andThen_ok, hsz, Sem.run_ite]
              rw [if_neg (by have : (2:Nat)^24 = 16777216 := by decide
                             omega)]
              simp only [Sem.run_pure, Result.andThen_ok, Sem.run_bind, Sem.run_ite]
              by_cases h' : len * i.size = 0
              · simp only [arr, zero, h', if_true] at hf
                simp only [h', if_true, Sem.run_pure, Result.andThen_ok, List.toList_toArray, hf, newRow, Sem.run_bind, run_newObj]
                rfl
              · simp only [arr, zero, h', if_false] at hf
                simp only [h', if_false, zeroValue, typeInfo, Sem.run_bind, run_program, hx, hz, Sem.run_pure, Result.andThen_ok, List.toList_toArray, hf, newRow, run_newObj]
                rfl
            have fin : ∀ (α : Type) (dd : α) (enc : α → List AV) (l : List α), l.map enc = css → K (.row d len i.size) (M'.set d (.row e dd enc l)) → Leaves P S F ρ w (Instr.buildSlice t len (is.zip vs).toArray) K := by
              intro α dd enc l hlc hK
              let b : Lab := ⟨w.heap.size, len, len, i.size, false⟩
              have hll : l.length = len := by
                have h1 : l.length = css.length := by rw [← hlc]; simp
                have h2 : vs.length = css.length := by simpa using hlen'
                omega
              refine ⟨_, _, _, S', Env.set ρ d b, _, hrun, hK, hS', Env.set_le _ (hM'.fresh hd), hM'.alloc hd _ e b _ (fun _ => rfl) ?_, .row d len i.size b (Env.set_eq _ _ _) rfl rfl (by simp [b]), Wle.alloc_cells _ _ _⟩
              have hcell : ∀ (k : Nat) a, l[k]? = some a → ∃ v, vs[k]? = some v ∧ RVs S' ρ v.cells.toList (enc a) ∧ allPers (enc a) = true := by
                intro k a hk
                have hck : css[k]? = some (enc a) := by rw [← hlc, List.getElem?_map, hk]; rfl
                have hkl : k < vs.length := by
                  have h1 := (List.getElem?_eq_some_iff.1 hck).1
                  have h2 : vs.length = css.length := by simpa using hlen'
                  omega
                exact ⟨vs[k], by simp, hcr' k _ _ hck (by rw [List.getElem?_map, List.getElem?_eq_getElem hkl]; rfl), allPers2_get hp k _ hck⟩
              refine ⟨by simp [b, hll], fun a ha => ?_, .inr ⟨rfl, by simp [b, hll], arr', heap_push_new _ _, by rw [hs', harr], fun k a j u hk hu => ?_, Store.inW_size hM'.sw, Store.inW_size hM'.fw⟩⟩
              · obtain ⟨k, hk⟩ := List.getElem?_of_mem ha
                obtain ⟨v, hvk, hvr, hpe⟩ := hcell k a hk
                refine ⟨?_, (allPers_ok hpe hvr).2⟩
                have h1 := hvr.1
                have h2 := hcsz v (List.mem_of_getElem? hvk)
                simp only [Array.length_toList] at h1
                show (enc a).length = i.size
                omega
              · obtain ⟨v, hvk, hvr, hpe⟩ := hcell k a hk
                obtain ⟨hpr, _⟩ := allPers_ok hpe hvr
                obtain ⟨y, hy, hr⟩ := hpr.2 j u hu
                have hj : j < i.size := by
                  have h1 := (List.getElem?_eq_some_iff.1 hy).1
                  have h2 := hcsz v (List.mem_of_getElem? hvk)
                  simp only [Array.length_toList] at h1
                  omega
                refine ⟨y, ?_, hr⟩
                have := hg' k v j hvk hj
                rw [Nat.zero_add] at this
                show arr'[k * i.size + j]? = some y
                rw [this]
                simpa using hy
            split at h
            · rename_i ns hns
              exact fin Int 0 encI ns (intsOf_eq hns) h
            · rw [bldK_iff] at h
              obtain ⟨α, dd, enc, l, hlc, hK⟩ := h
              exact fin α dd enc l hlc hK
          · exact h.elim
        · exact h.elim
      · exact h.elim
    · exact h.elim
  · exact h.elim

end
end Go.Proofs.Ytihligeggkpolaa
