/-
  The model's run of an operation that changes no memory gives what the abstract value says: the rest of the proofs.
-/
import Derived.Test.YtihligeggkpolaaSymD
namespace Go.Proofs.Ytihligeggkpolaa

section
variable {S : Store} {ρ : Env} {P : Program} {tt : TT} {w : World}

theorem evField_ok (hT : TOkB P tt = true) {s : TypeId} {f : Nat} {a : AV} {u : Value} (hu : RV S ρ u a) : RsOkV S ρ P w (Instr.field s u f) (evField tt s f a) := by
  unfold evField
  split
  · rename_i cells
    split
    · rename_i sz by_ fs z hs
      obtain ⟨gs, hgs, he, hpos⟩ := TOk.struct hT hs
      split
      · rename_i o ft hf
        rw [nth_eq, ← he, List.getElem?_map] at hf
        obtain ⟨g, hg, hgo⟩ := Option.map_eq_some_iff.1 hf
        have hg' : gs[f]? = some g := by simpa using hg
        injection hgo with ho ht
        obtain ⟨vs, rfl, hvs⟩ := hu.agg_inv
        have := evPart_part (P := P) (w := w) hT (t := ft) (cs := vs) (o := o) (hvs.drop o)
        have e : (Instr.field s (.agg vs) f).run P w = (part ft vs o).run P w := by
          simp [Instr.field, run_underlying hgs, hg', asAgg, ho, ht]
        unfold RsOkV at *
        rw [e]
        exact this
      · trivial
    · trivial
  · trivial

theorem getD_of_lt {α : Type} {l : List α} {d : α} {n : Nat} (h : n < l.length) : l[n]? = some (l.getD n d) := by
  simp [List.getD, h]

theorem evIndexAddr_ok (hT : TOkB P tt = true) {t : TypeId} {a b : AV} {u v : Value} (hu : RV S ρ u a) (hv : RV S ρ v b) : RsOkV S ρ P w (Instr.indexAt t u v) (evIndexAddr tt t a b) := by
  unfold evIndexAddr
  split
  · rename_i d enc l k n
    cases hv.int_inv
    split
    · rename_i sz by_ e z ht
      have hte := TOk.slice hT ht
      split
      · rename_i i hi
        have hsz := TOk.size hT hi w
        split
        · rename_i hlen
          have hlen := Nat.eq_of_beq_eq_true hlen
          rintro ⟨h0, hlt⟩
          cases hu.sl_inv with
          | sl _ _ _ base cap sz' vals hcap ho hsz' hb hn hv' =>
            have hlt' : n.toNat < l.length := by omega
            have hg := getD_of_lt (d := d) hlt'
            have hne : l ≠ [] := by intro h; subst h; simp at hlt'
            cases base with
            | none => exact absurd rfl (hn hne)
            | some ad =>
              have hs : sz' = i.size := by rw [← hlen]; exact (hsz' _ (List.mem_of_getElem? hg)).symm
              refine ⟨.pointer (some (ad.add (n.toNat * i.size))), by simp [Instr.indexAt, asIntOf, run_underlying hte, h0, hlt, hsz], .p (.pd _ _ (fun j => vals n.toNat j) (fun j hj => ?_) (fun j u hu => hv' _ _ _ _ hg hu))⟩
              rw [hlen] at hj
              obtain ⟨ad', he', hc⟩ := hb n.toNat j hlt' (by omega)
              injection he' with he'
              subst he'
              rw [Addr.add_add, ← hs]
              exact hc
        · trivial
      · trivial
    · trivial
  · rename_i ℓ m sz k n
    cases hv.int_inv
    split
    · rename_i sz' by_ e z ht
      have hte := TOk.slice hT ht
      split
      · rename_i i hi
        have hsz := TOk.size hT hi w
        split
        · rename_i hs
          have hs := Nat.eq_of_beq_eq_true hs
          rintro ⟨h0, hlt⟩
          obtain ⟨b, hb, rfl, rfl, hz, rfl⟩ := hu.row_inv
          have hnil : b.nil = false := by
            cases h : b.nil
            · rfl
            · have := hz h; omega
          refine ⟨.pointer (some ⟨b.blk, n.toNat * b.sz + 0, none⟩), ?_, .rel ℓ n.toNat 0 b hb (by omega)⟩
          simp [Instr.indexAt, asIntOf, run_underlying hte, Lab.hdr, hnil, h0, hlt, hsz, Addr.add_mk, hs]
        · trivial
      · trivial
    · trivial
  · trivial

theorem evIndex_ok (hT : TOkB P tt = true) {t : TypeId} {a b : AV} {u v : Value} (hu : RV S ρ u a) (hv : RV S ρ v b) : RsOkV S ρ P w (Instr.index t u v) (evIndex tt t a b) := by
  unfold evIndex
  split
  · rename_i s k n
    cases hu.str_inv; cases hv.int_inv
    split
    · rename_i ht
      have hts := TOk.string hT ht
      rintro ⟨h0, h1⟩
      refine ⟨.int .u8 (s.data.getD n.toNat 0).toNat, ?_, .p (.int _ _)⟩
      have hlt : n.toNat < s.size := by omega
      have hg : s[n.toNat]? = some s[n.toNat] := getElem?_pos s n.toNat hlt
      have hd : s[n.toNat] = s.data.getD n.toNat 0 := by
        have hlt' : n.toNat < s.data.size := hlt
        show s.data[n.toNat] = _
        rw [Array.getD_eq_getD_getElem?, Array.getElem?_eq_getElem hlt']
        rfl
      simp only [Instr.index, asIntOf, Sem.run_bind, Sem.run_pure, Result.andThen_ok, run_underlying hts, h0, if_true, hg, hd]
    · trivial
  · trivial

theorem evNilCheck_ok {x : Operand} {ty : TypeId} {ps : String} {af : Array Edge} {g : Option (Nat × Bool)} {d : Option Tmp} {ev : Operand → Value} {a : AV} (hu : RV S ρ (ev x) a) :
    RsOk S ρ P w (execOp ev ⟨d, .nilCheck x, ty, ps, af, g⟩) (evNilCheck a) := by
  unfold evNilCheck
  split
  · obtain ⟨b, hb, e⟩ := hu.ptr_inv
    exact ⟨_, by simp [execOp, e]; rfl, by exact .ptr _ _ _ hb⟩
  · obtain ⟨b, hb, hi, e⟩ := hu.rel_inv
    exact ⟨_, by simp [execOp, e]; rfl, by exact .rel _ _ _ _ hb hi⟩
  · have := hu.pd_inv
    generalize he : ev x = v at *
    cases this with
    | pd _ ad vals hb hv => exact ⟨_, by simp [execOp, he], .p (.pd _ _ vals hb hv)⟩
  · obtain ⟨vs, e, hvs⟩ := hu.fn_inv
    exact ⟨_, by simp [execOp, e], RV.fn_mk _ hvs⟩
  · trivial

theorem evExtract_ok {i : Nat} {a : AV} {u : Value} (hu : RV S ρ u a) : RsOkV S ρ P w (Instr.extract u i) (evExtract i a) := by
  unfold evExtract
  split
  · rename_i vs
    obtain ⟨xs, rfl, hx⟩ := hu.tup_inv
    split
    · rename_i y hy
      obtain ⟨v, hv, hr⟩ := hx.2 i y hy
      have : xs[i]? = some v := by simpa using hv
      exact ⟨v, by simp [Instr.extract, this], hr⟩
    · trivial
  · trivial

theorem sl_cut {α : Type} {d : α} {enc : α → List AV} {l : List α} {base : Option Addr} {n cap : Nat} (h : RP S (.slice base n cap) (.sl d enc l)) {x : Nat} (hx : x ≤ l.length) (sz : Nat) (hs : ∀ a ∈ l, (enc a).length = sz) :
    RP S (.slice (if cap = x then base else base.map (·.add (x * sz))) (l.length - x) (cap - x)) (.sl d enc (l.drop x)) := by
  cases h with
  | sl _ _ _ _ _ sz' vals hcap ho hsz' hb hn hv =>
    have e : l.length - x = (l.drop x).length := by simp
    rw [e]
    by_cases hl : x < l.length
    · have hss : sz' = sz := by
        rw [← hsz' l[x] (List.getElem_mem hl), hs l[x] (List.getElem_mem hl)]
      subst hss
      refine .sl d enc _ _ _ sz' (fun i j => vals (x + i) j) (by simp; omega) (fun a ha => ho a (List.mem_of_mem_drop ha)) (fun a ha => hsz' a (List.mem_of_mem_drop ha)) (fun i j hi hj => ?_) (fun _ => ?_) (fun i a j u ha hu => ?_)
      · simp at hi
        obtain ⟨ad, rfl, hc⟩ := hb (x + i) j (by omega) hj
        refine ⟨ad.add (x * sz'), by rw [if_neg (by omega)]; rfl, ?_⟩
        rw [Addr.add_add, show x * sz' + (i * sz' + j) = (x + i) * sz' + j from by rw [Nat.add_mul]; omega]
        exact hc
      · rw [if_neg (by omega)]
        have : base ≠ none := hn (by intro h; subst h; simp at hl)
        cases base with
        | none => exact absurd rfl this
        | some a => simp
      · rw [List.getElem?_drop] at ha
        exact hv _ _ _ _ ha hu
    · have : l.drop x = [] := by simp; omega
      rw [this]
      refine .sl d enc [] _ _ 0 (fun _ _ => undef) (by simp) (by simp) (by simp) (by simp) (by simp) (by simp)
theorem sl_head {α : Type} {d : α} {enc : α → List AV} {l : List α} {base : Option Addr} {n cap : Nat} (h : RP S (.slice base n cap) (.sl d enc l)) {x : Nat} (hx : x ≤ l.length) :
    RP S (.slice base x cap) (.sl d enc (l.take x)) := by
  cases h with
  | sl _ _ _ _ _ sz' vals hcap ho hsz' hb hn hv =>
    have e : x = (l.take x).length := by simp; omega
    have := RP.sl (S := S) d enc (l.take x) base cap sz' vals (by simp; omega) (fun a ha => ho a (List.mem_of_mem_take ha)) (fun a ha => hsz' a (List.mem_of_mem_take ha)) (fun i j hi hj => hb i j (by simp at hi; omega) hj) (fun h => hn (by intro e; subst e; simp at h))
      (fun i a j u ha hu => by
        rw [List.getElem?_take] at ha
        split at ha
        · exact hv _ _ _ _ ha hu
        · simp at ha)
    rw [← e] at this
    exact this

theorem sz_of {α : Type} {d : α} {enc : α → List AV} {l : List α} {v : Value} (h : RP S v (.sl d enc l)) {n : Nat} (hn : (enc (l.getD 0 d)).length = n) : ∀ a ∈ l, (enc a).length = n := by
  cases h with
  | sl _ _ _ base cap sz vals hcap ho hsz hb hn' hv =>
    intro a ha
    have hl : 0 < l.length := List.length_pos_of_mem ha
    have hg := getD_of_lt (d := d) hl
    rw [hsz a ha, ← hn, hsz _ (List.mem_of_getElem? hg)]

theorem sl_form {α : Type} {d : α} {enc : α → List AV} {l : List α} {v : Value} (h : RP S v (.sl d enc l)) : ∃ base cap, v = .slice base l.length cap ∧ l.length ≤ cap := by
  cases h with
  | sl _ _ _ base cap sz vals hcap ho hsz hb hn' hv => exact ⟨base, cap, rfl, hcap⟩

theorem evSlice_ok (hT : TOkB P tt = true) {t : TypeId} {a : AV} {u : Value} (hu : RV S ρ u a) (lo hi : Option AV) (lv hv : Option Value)
    (hl : ∀ x, lo = some x → ∃ v, lv = some v ∧ RV S ρ v x) (hl0 : lo = none → lv = none)
    (hh : ∀ x, hi = some x → ∃ v, hv = some v ∧ RV S ρ v x) (hh0 : hi = none → hv = none) : RsOkV S ρ P w (Instr.sliceAt t u lv hv none) (evSlice tt t a lo hi) := by
  unfold evSlice
  split
  · rename_i sz by_ e z ht
    have hte := TOk.slice hT ht
    split
    · rename_i i hi'
      have hsz := TOk.size hT hi' w
      split
      · rename_i α d enc l
        split
        · rename_i hlen
          have hlen := Nat.eq_of_beq_eq_true hlen
          have hr := hu.sl_inv
          have hall := sz_of hr hlen
          obtain ⟨base, cap, rfl, hcap⟩ := sl_form hr
          have run : ∀ x y : Nat, ((Instr.sliceBounds true l.length cap lv hv none).run P w = .ok (x, y, cap) w) →
              (Instr.sliceAt t (.slice base l.length cap) lv hv none).run P w = .ok (.slice (if cap = x then base else base.map (·.add (x * i.size))) (y - x) (cap - x)) w := by
            intro x y hxy
            simp [Instr.sliceAt, Instr.slice, run_underlying hte, hxy, hsz]
          split
          · cases hl0 rfl; cases hh0 rfl
            refine ⟨_, run 0 l.length (by simp [Instr.sliceBounds]), ?_⟩
            have := sl_cut hr (x := 0) (by omega) i.size hall
            simpa using RV.p this
          · rename_i k x
            cases hh0 rfl
            obtain ⟨v, rfl, hvx⟩ := hl _ rfl
            cases hvx.int_inv
            rintro ⟨h0, h1⟩
            refine ⟨_, run x.toNat l.length ?_, ?_⟩
            · simp [Instr.sliceBounds, Instr.sliceBound, asIntOf, h0, h1]
            · exact .p (sl_cut hr (by omega) i.size hall)
          · rename_i k y
            cases hl0 rfl
            obtain ⟨v, rfl, hvx⟩ := hh _ rfl
            cases hvx.int_inv
            rintro ⟨h0, h1⟩
            refine ⟨_, run 0 y.toNat ?_, ?_⟩
            · have : y ≤ cap := by omega
              simp [Instr.sliceBounds, Instr.sliceBound, asIntOf, h0, this]
            · have h2 := sl_head hr (x := y.toNat) (by omega)
              have e1 : (l.take y.toNat).length = y.toNat := by simp; omega
              have := sl_cut h2 (x := 0) (by omega) i.size (fun a ha => hall a (List.mem_of_mem_take ha))
              rw [e1] at this
              simpa using RV.p this
          · rename_i k x k' y
            obtain ⟨v, rfl, hvx⟩ := hl _ rfl
            cases hvx.int_inv
            obtain ⟨v', rfl, hvy⟩ := hh _ rfl
            cases hvy.int_inv
            rintro ⟨h0, h1, h2⟩
            refine ⟨_, run x.toNat y.toNat ?_, ?_⟩
            · have a1 : y ≤ cap := by omega
              have a2 : 0 ≤ y := by omega
              have a3 : x ≤ max y 0 := by omega
              simp [Instr.sliceBounds, Instr.sliceBound, asIntOf, h0, a1, a2]
              omega
            · have h2 := sl_head hr (x := y.toNat) (by omega)
              have e1 : (l.take y.toNat).length = y.toNat := by simp; omega
              have := sl_cut h2 (x := x.toNat) (by omega) i.size (fun a ha => hall a (List.mem_of_mem_take ha))
              rw [e1] at this
              exact .p this
          · trivial
        · trivial
      · trivial
    · trivial
  · trivial

theorem evLoad_ok {F : Store} {M : Mem} (hT : TOkB P tt = true) (hM : RepM S F ρ M w) {t : TypeId} {a : AV} {u : Value} (hu : RV S ρ u a) : RsOkV S ρ P w (Instr.loadAt t u) (evLoad tt t M a) := by
  unfold evLoad
  split
  · rename_i cells
    cases hu.pd_inv with
    | pd _ ad vals hb hv =>
      exact evPart_load hT fun j x hx => ⟨vals j, Store.cell_w hM.sw (hb j (List.getElem?_eq_some_iff.1 hx).1), .p (hv j x hx)⟩
  · rename_i ℓ o
    obtain ⟨b, hb, rfl⟩ := hu.ptr_inv
    split
    · rename_i t' cells hl
      obtain ⟨b', hb', vs, hheap, hvs, _⟩ := hM.blk _ _ hl
      rw [hb] at hb'; cases hb'
      refine evPart_load hT fun j x hx => ?_
      rw [List.getElem?_drop] at hx
      obtain ⟨v, hv, hr⟩ := hvs.2 _ x hx
      exact ⟨v, by rw [Addr.add_mk]; simp only [World.cell?, hheap]; simpa using hv, hr⟩
    · trivial
  · rename_i ℓ i o
    obtain ⟨b, hb, hi, rfl⟩ := hu.rel_inv
    split
    · rename_i t' α d enc l hl
      obtain ⟨b', hb', hlen, hszs, hcase⟩ := hM.blk _ _ hl
      rw [hb] at hb'; cases hb'
      rcases hcase with ⟨_, rfl, _⟩ | ⟨_, _, vs, hheap, _, hcell, _⟩
      · simp at hlen; omega
      · refine evPart_load hT fun j x hx => ?_
        rw [List.getElem?_drop] at hx
        have hg := getD_of_lt (d := d) (l := l) (n := i) (by omega)
        obtain ⟨v, hv, hr⟩ := hcell _ _ _ _ hg hx
        exact ⟨v, by rw [Addr.add_mk]; simp only [World.cell?, hheap]; rw [Nat.add_assoc]; simpa using hv, .p hr⟩
    · trivial
  · trivial

end
end Go.Proofs.Ytihligeggkpolaa
