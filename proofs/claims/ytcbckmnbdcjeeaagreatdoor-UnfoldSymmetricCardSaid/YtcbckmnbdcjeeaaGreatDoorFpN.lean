
/-
  Go's slices.Sort on a piece of an own row of numbers: the row with that piece in order.
-/
import Derived.Test.YtcbckmnbdcjeeaaGreatDoorFpMa
import Derived.Test.YtcbckmnbdcjeeaaGreatDoorFpNs
import Derived.Sort.EveryDepth
import Derived.Shelf.Slices.In.SortAlone
import Derived.Shelf.Slices.In.SortNone
set_option linter.unusedVariables false
set_option linter.unusedSimpArgs false
namespace Go.Proofs.YtcbckmnbdcjeeaaGreatDoor
open Go.Sort

section
variable {S F : Store} {ρ : Env} {M : Mem} {w : World} {P : Program}
theorem RepM.grow (h : RepM S F ρ M w) (os : Array Obj) : RepM S F ρ M (Go.Sort.grow w os) := by
  have old : ∀ (T : Store), T.inW w → T.inW (Go.Sort.grow w os) := fun T hT b o e => by
    have := hT b o e
    rw [heap_grow_old w os (Array.getElem?_eq_some_iff.1 this).1]; exact this
  refine ⟨old _ h.sw, old _ h.fw, h.sf, h.dom, fun ℓ B hB => ?_, h.inj, h.gl⟩
  obtain ⟨b, hb, hr⟩ := h.blk _ _ hB
  exact ⟨b, hb, hr.keep (Store.le_refl _) (Env.le_refl _) fun hl => ⟨heap_grow_old w os (hr.lt hl), rfl⟩⟩
theorem Wle.grow {w w' : World} (h : Wle w w') (os : Array Obj) : Wle w (Go.Sort.grow w' os) :=
  ⟨h.os, h.output, h.tape, by rw [size_grow]; have := h.size; omega, fun a ha => (frozen?_grow w' os a (Nat.lt_of_lt_of_le ha h.size)).trans (h.fz a ha)⟩
theorem Mem.set_self {M : Mem} {ℓ : Nat} {B : Blk} (h : M ℓ = some B) : M.set ℓ B = M := by
  funext x
  by_cases e : x = ℓ
  · subst e; rw [Mem.set_eq, h]
  · rw [Mem.set_ne _ _ e]

theorem Spec.sort {f : FuncId} (hP : Plain P f)
    (hS : ∀ (blk off cap : Nat) (zs : List Int) (w : World), Holds (Value.int .i64) w blk off zs.toArray → blk < w.heap.size → zs.length < 4611686018427387904 →
      Calls P f #[.slice (some ⟨blk, off, none⟩) zs.length cap] w fun e w' => e = .returned (.tuple #[]) ∧ ∃ n os, w' = Go.Sort.grow (putRow (Value.int .i64) (Go.Sort.ahead w n) blk off (zs.mergeSort fun x y => decide (x ≤ y)).toArray) os)
    (h0 : ∀ (p : Option Addr) (cap : Nat) (w : World), Calls P f #[.slice p 0 cap] w fun e w' => e = .returned (.tuple #[]) ∧ w' = w)
    {ℓ lo n : Nat} {t : TypeId} {l : List Int} (hl : M ℓ = some (.row t 0 encI l)) (hn : lo + n ≤ l.length) (hbig : l.length < 4611686018427387904) {K : AV → Mem → Prop}
    (hK : K (.tup []) (M.set ℓ (.row t 0 encI (srtAt l lo n)))) : Spec P f [.part ℓ lo n 1] M K := by
  rw [Spec_iff]
  refine ⟨hP, fun S F ρ vs w hM hv => ?_⟩
  obtain ⟨v, vs', rfl, hv1, hv2⟩ := hv.cons_inv
  have := hv2.nil_inv
  subst this
  obtain ⟨b, a, c, hb, hs, hlen, hpos, rfl⟩ := hv1.part_inv
  by_cases hz : n = 0
  · subst hz
    refine (h0 a c w).mono ?_
    rintro e w' ⟨rfl, rfl⟩
    have e1 : srtAt l lo 0 = l := by
      have : srtI [] = [] := List.eq_nil_of_length_eq_zero (srtI_len [])
      simp [srtAt, this]
    rw [e1, Mem.set_self hl] at hK
    exact ⟨_, _, M, S, ρ, rfl, hK, Store.le_refl _, Env.le_refl _, hM, RV.tup_mk (vs := []) (RVs.nil _ _), Wle.refl _⟩
  obtain ⟨hnil, rfl⟩ := hpos (by omega)
  obtain ⟨b', hb', hblen, hszs, hcase⟩ := hM.blk _ _ hl
  rw [hb] at hb'; cases hb'
  rcases hcase with ⟨h, _⟩ | ⟨_, hcap, cs, hheap, hcs, hcell, hSb, hFb⟩
  · rw [hnil] at h; cases h
  rw [hs] at hcell hcs
  have hzlen : ((l.drop lo).take n).length = n := by rw [List.length_take, List.length_drop]; omega
  have hat : ∀ i x, l[i]? = some x → cs[i]? = some (Value.int .i64 x) := fun i x hx => by
    obtain ⟨v, h1, h2⟩ := hcell i x 0 (.int .i64 x) hx rfl
    cases h2
    simpa using h1
  have hat2 : ∀ j, j < n → cs[lo + j]? = some (Value.int .i64 (((l.drop lo).take n).toArray[j]!)) := fun j hj => by
    apply hat
    have e1 : ((l.drop lo).take n)[j]? = l[lo + j]? := by rw [List.getElem?_take, if_pos hj, List.getElem?_drop]
    have hj' : j < ((l.drop lo).take n).length := by omega
    rw [← e1, getElem!_pos _ j (by simpa using hj')]
    simp only [List.getElem_toArray]
    exact List.getElem?_eq_getElem hj'
  have hlt := lt_of_heap hheap
  have hH : Holds (Value.int .i64) w b.blk lo ((l.drop lo).take n).toArray := fun j hj => by
    have hj : j < n := by simpa [hzlen] using hj
    refine ⟨?_, ?_⟩
    · simp only [World.cell?, hheap]
      exact hat2 j hj
    · simp [World.frozen?, hheap]
  have hcall := hS b.blk lo c ((l.drop lo).take n) w hH hlt (by omega)
  rw [hzlen] at hcall
  rw [hs, Nat.mul_one]
  refine hcall.mono ?_
  rintro e w' ⟨rfl, q, os, rfl⟩
  let ys := srtI ((l.drop lo).take n)
  have hyl : ys.length = n := by rw [srtI_len, hzlen]
  let w1 := putRow (Value.int .i64) (Go.Sort.ahead w q) b.blk lo ys.toArray
  have hh1 : ∀ k, k ≠ b.blk → w1.heap[k]? = w.heap[k]? := fun k hk => by
    show (w.heap.modify b.blk _)[k]? = _
    rw [Array.getElem?_modify, if_neg (fun e => hk e.symm)]
  have hh2 : w1.heap[b.blk]? = some (.cells (putCells (Value.int .i64) lo ys.toArray cs) t (0, 0)) := by
    show (w.heap.modify b.blk _)[b.blk]? = _
    rw [Array.getElem?_modify, if_pos rfl, hheap]; rfl
  have hM1 : RepM S F ρ (M.set ℓ (.row t 0 encI (srtAt l lo n))) w1 := by
    refine hM.upd hl hb (fun k hk => hh1 k (hk.elim id fun h => absurd hnil h)) (fun _ => hnil) ?_
    refine ⟨by rw [srtAt_len hn]; exact hblen, fun x _ => ⟨by rw [hs]; rfl, rfl⟩, .inr ⟨hnil, by rw [srtAt_len hn]; exact hcap, _, hh2, by rw [hs, ← hcs]; simp [putCells], fun i x j u hx hu => ?_, hSb, hFb⟩⟩
    have hj : j = 0 := by
      cases j with
      | zero => rfl
      | succ j => simp [encI] at hu
    subst hj
    cases hu
    rw [hs, Nat.mul_one, Nat.add_zero]
    simp only [putCells, Array.getElem?_mapIdx]
    have hil : i < l.length := by
      have := (List.getElem?_eq_some_iff.1 hx).1
      rwa [srtAt_len hn] at this
    have hc1 := hat i l[i] (List.getElem?_eq_getElem hil)
    rw [hc1, Option.map_some]
    refine ⟨_, rfl, ?_⟩
    have htl : (l.take lo).length = lo := by rw [List.length_take]; omega
    unfold srtAt at hx
    by_cases c1 : i < lo
    · rw [List.getElem?_append_left (by omega), List.getElem?_take, if_pos c1, List.getElem?_eq_getElem hil] at hx
      cases hx
      rw [if_neg (by omega)]
      exact .int _ _
    · rw [List.getElem?_append_right (by omega), htl] at hx
      by_cases c2 : i < lo + n
      · have hi2 : i - lo < ys.length := by omega
        rw [List.getElem?_append_left hi2, List.getElem?_eq_getElem hi2] at hx
        cases hx
        rw [if_pos ⟨by omega, by simp; omega⟩, getElem!_pos _ _ (by simpa using hi2)]
        simp only [List.getElem_toArray]
        exact .int _ _
      · rw [List.getElem?_append_right (by show ys.length ≤ _; omega), List.getElem?_drop] at hx
        have e2 : lo + n + (i - lo - (srtI ((l.drop lo).take n)).length) = i := by
          have : (srtI ((l.drop lo).take n)).length = n := hyl
          omega
        rw [e2, List.getElem?_eq_getElem hil] at hx
        cases hx
        rw [if_neg (by simp; omega)]
        exact .int _ _
  have hW1 : Wle w w1 := ⟨rfl, rfl, rfl, by show w.heap.size ≤ (w.heap.modify _ _).size; simp, fun x hx => by
    show (putRow (Value.int .i64) (Go.Sort.ahead w q) b.blk lo ys.toArray).frozen? x = _
    rw [frozen?_putRow]; rfl⟩
  exact ⟨_, _, _, S, ρ, rfl, hK, Store.le_refl _, Env.le_refl _, hM1.grow os, RV.tup_mk (vs := []) (RVs.nil _ _), hW1.grow os⟩
end
theorem sortP : Plain Tryz.prog 71 := ⟨_, Tryz.func71, rfl, rfl⟩
theorem sortA (blk off cap : Nat) (zs : List Int) (w : World) (hH : Holds (Value.int .i64) w blk off zs.toArray) (hb : blk < w.heap.size) (hs : zs.length < 4611686018427387904) :
    Calls Tryz.prog 71 #[.slice (some ⟨blk, off, none⟩) zs.length cap] w fun e w' => e = .returned (.tuple #[]) ∧ ∃ n os, w' = Go.Sort.grow (putRow (Value.int .i64) (Go.Sort.ahead w n) blk off (zs.mergeSort fun x y => decide (x ≤ y)).toArray) os :=
  calls_of_every_depth fun D => AnyS.slices_Sort_int_alone Tryz.laysSort D blk off cap zs w hH hb hs
theorem sort0 (p : Option Addr) (cap : Nat) (w : World) : Calls Tryz.prog 71 #[.slice p 0 cap] w fun e w' => e = .returned (.tuple #[]) ∧ w' = w :=
  calls_of_every_depth fun D => AnyS.slices_Sort_int_none_alone Tryz.laysSort D p cap w
end Go.Proofs.YtcbckmnbdcjeeaaGreatDoor
