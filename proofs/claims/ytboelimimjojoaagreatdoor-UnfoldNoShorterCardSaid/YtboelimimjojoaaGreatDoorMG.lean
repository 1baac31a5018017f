import Derived.Test.YtboelimimjojoaaGreatDoorME
import Derived.Test.YtboelimimjojoaaGreatDoorMD
import Derived.Shelf.SlSortCmp.NoneTotal
import Derived.Test.YtboelimimjojoaaGreatDoorMF
import Derived.Test.YtboelimimjojoaaGreatDoorMA
import Derived.Test.YtboelimimjojoaaGreatDoorMB
import Derived.Test.YtboelimimjojoaaGreatDoorA1
set_option linter.unusedVariables false
set_option linter.unusedSimpArgs false
namespace Go.Proofs.YtboelimimjojoaaGreatDoor
open Go.Sort Go.Shelf
set_option maxRecDepth 100000
def srtC (l : List Cfg) : List Cfg := l.mergeSort fun a b => decide (cmpC a b ≤ 0)
theorem srtC_perm (l : List Cfg) : (srtC l).Perm l := List.mergeSort_perm _ _
theorem cmpC_le_trans {a b c : Cfg} (h1 : cmpC a b ≤ 0) (h2 : cmpC b c ≤ 0) : cmpC a c ≤ 0 := by
 have := cmpC_tri a b c
 unfold Tri at this
 omega
theorem srtC_up (l : List Cfg) : (srtC l).Pairwise fun a b => cmpC a b ≤ 0 := by
 have := List.pairwise_mergeSort (le := fun a b : Cfg => decide (cmpC a b ≤ 0)) (fun a b c h1 h2 => by simp only [decide_eq_true_eq] at *; exact cmpC_le_trans h1 h2) (fun a b => by simp only [Bool.or_eq_true, decide_eq_true_eq]; have := cmpC_neg a b; omega) l
 exact this.imp (by simp)
theorem srtC_of {l m : List Cfg} (h : m.Perm l) (hm : m.Pairwise fun a b => cmpC a b ≤ 0) : m = srtC l :=
 (h.trans (srtC_perm l).symm).eq_of_pairwise (fun a b _ _ h1 h2 => cmpC_same (by have := cmpC_neg a b; omega)) hm (srtC_up l)
section
variable {S F : Store} {ρ : Env} {M : Mem} {w : World} {P : Program}
abbrev CV (S : Store) := { x : Cfg × List Value // RPs S x.2 (encC x.1) ∧ wideB x.1 = false }
theorem rp_nil (S : Store) : RP S (.slice none 0 0) (.sl 0 encI []) := .sl (0 : Int) encI [] none 0 1 (fun _ _ => .int .i64 0) (by simp) (by simp) (by simp) (fun i j hi => by simp at hi) (by simp) (fun i a j u hi => by simp at hi)
instance (S : Store) : Inhabited (CV S) := ⟨⟨(cfg0, [.slice none 0 0, .slice none 0 0, .int .i64 0, .slice none 0 0, .slice none 0 0, .int .i64 0]),
 .cons (rp_nil S) (.cons (rp_nil S) (.cons (.int _ _) (.cons (rp_nil S) (.cons (rp_nil S) (.cons (.int _ _) (.nil S)))))), rfl⟩⟩
theorem RP.agg_of {S : Store} {vs : List Value} {us : List AV} (h : RPs S vs us) : RP S (.agg vs.toArray) (.agg us) :=
 .agg us vs.toArray (by simpa using h.1) (fun i => vs.getD i undef) (fun i hi => by simp at hi; simp [hi]) (fun j u hu => by
  obtain ⟨v, h1, h2⟩ := h.2 j u hu
  have : vs.getD j undef = v := by simp [List.getD, h1]
  show RP S (vs.getD j undef) u
  rw [this]
  exact h2)
theorem oneC {v : Value} {c : Cfg} {u : AV} (hu : u ∈ encC c) (h : RP S v u) : v.oneCell' = true := by
 simp only [encC, List.mem_cons, List.not_mem_nil, or_false] at hu
 rcases hu with rfl | rfl | rfl | rfl | rfl | rfl <;> cases h <;> rfl
theorem CV.one (x : CV S) : ∀ v ∈ x.1.2, v.oneCell' = true := by
 intro v hv
 obtain ⟨i, hi, rfl⟩ := List.getElem_of_mem hv
 have hl := x.2.1.1
 have hi' : i < (encC x.1.1).length := by omega
 obtain ⟨v', h1, h2⟩ := x.2.1.2 i _ (gL hi')
 rw [gL hi] at h1
 cases h1
 exact oneC (List.getElem_mem hi') h2
theorem PSpec.quiet {f : FuncId} {args : List AV} {R : AV → Prop} (h : PSpec P f args R) {W : World} {vs : List Value} (hg : Gl S) (hs : S.inW W) (hv : RPs S vs args) :
  Calls P f vs.toArray W fun e w' => ∃ v u S', e = .returned v ∧ R u ∧ RP S' v u ∧ ∃ q os, w' = Go.Sort.grow (W.drewN q) os := by
 rw [PSpec_iff] at h
 let G : Store := fun k => match S k with
  |some _ => none
  |none => W.heap[k]?
 have hG : G.inW W := fun k o hk => by
  show _ = _
  have : G k = some o := hk
  simp only [G] at this
  split at this
  ·cases this
  ·exact this
 refine (h.2 S G vs W hg hs hG (fun k => ?_) hv).mono ?_
 ·cases e : S k with
  |none => exact .inl rfl
  |some o => right; simp only [G, e]
 ·rintro e w' ⟨v, u, S', rfl, hR, hle, hs', hf', _, hr, hw⟩
  refine ⟨v, u, S', rfl, hR, hr, w'.drawn - W.drawn, w'.heap.extract W.heap.size w'.heap.size, ?_⟩
  have hold : ∀ k, k < W.heap.size → w'.heap[k]? = W.heap[k]? := fun k hk => by
   obtain ⟨o, ho⟩ : ∃ o, W.heap[k]? = some o := ⟨_, Array.getElem?_eq_getElem hk⟩
   cases e : S k with
   |some o' =>
    have h1 := hs k o' e
    rw [hs' k o' (hle k o' e), h1]
   |none =>
    have : G k = some o := by simp only [G, e]; exact ho
    rw [hf' k o this, ho]
  have hheap : w'.heap = W.heap ++ w'.heap.extract W.heap.size w'.heap.size := by
   apply Array.ext_getElem?
   intro k
   by_cases hk : k < W.heap.size
   ·rw [hold k hk, Array.getElem?_append_left hk]
   ·rw [Array.getElem?_append_right (by omega), Array.getElem?_extract]
    have hsz := hw.size
    by_cases h2 : k < w'.heap.size
    ·rw [if_pos (by omega), show W.heap.size + (k - W.heap.size) = k by omega]
    ·rw [Array.getElem?_eq_none (by omega), if_neg (by omega)]
  have hd := hw.dr
  obtain ⟨h1, h2, h3, h4, h5⟩ := w'
  have e1 := hw.os
  have e2 := hw.output
  have e3 := hw.tape
  simp only at e1 e2 e3 hheap hd ⊢
  subst e1 e2 e3
  unfold Go.Sort.grow World.drewN
  simp only [World.mk.injEq, true_and, and_true]
  refine ⟨hheap, by omega⟩
theorem Spec.sortF {f g : FuncId} (hP : Plain P f) (hc : ∀ a b, wideB a = false → PSpec P g [.agg (encC a), .agg (encC b)] (fun u => u = .int .i64 (cmpC a b)))
  (eg : ∀ args w, (callFunc g args).run P w = .ok (.enter g args) w)
  (hS : ∀ (α : Type) [Inhabited α] (enc : α → List Value) (_ : ∀ x, (enc x).length = 6) (_ : ∀ x, ∀ v ∈ enc x, v.oneCell' = true) (cf : α → α → Int) (_ : SWO (ltOf cf)) (cb : Array Value) (blk off cap : Nat) (d : Array α) (w : World)
   (_ : CmpLays P g cb enc 6 cf blk off d.size w) (_ : HoldsK enc 6 w blk off d) (_ : blk < w.heap.size) (_ : d.size < 4611686018427387904),
   Calls P f #[.slice (some ⟨blk, off, none⟩) d.size cap, .func (.func g) #[] cb] w fun e w' => e = .returned (.tuple #[]) ∧ ∃ d' n os, PermIn 0 d.size d d' ∧ SortedIn (ltOf cf) 0 d.size d' ∧ w' = sortWorldK enc 6 w blk off n d' os)
  (h0 : ∀ (p : Option Addr) (cap : Nat) (fv : Value) (w : World), Calls P f #[.slice p 0 cap, fv] w fun e w' => e = .returned (.tuple #[]) ∧ w' = w)
  {ℓ n : Nat} {t : TypeId} {l : List Cfg} (hl : M ℓ = some (.row t cfg0 encC l)) (hn : n = l.length) (hbig : l.length < 4611686018427387904) (hw : ∀ c ∈ l, wideB c = false) {K : AV → Mem → Prop}
  (hK : K (.tup []) (M.set ℓ (.row t cfg0 encC (srtC l)))) : Spec P f [.row ℓ n 6, .fn g []] M K := by
 rw [Spec_iff]
 refine ⟨hP, fun S F ρ vs w hM hv => ?_⟩
 obtain ⟨v, vs', rfl, hv1, hv2⟩ := hv.cons_inv
 obtain ⟨fv, vs'', rfl, hv3, hv4⟩ := hv2.cons_inv
 have := hv4.nil_inv
 subst this
 obtain ⟨b, hb, hbn, hbs, hbz, rfl⟩ := hv1.row_inv
 obtain ⟨cb, rfl, hcb⟩ := hv3.fn_inv
 have hcb0 : cb = #[] := by
  have := hcb.nil_inv
  apply Array.ext'
  simpa using this
 subst hcb0
 obtain ⟨b', hb', hblen, hszs, hcase⟩ := hM.blk _ _ hl
 rw [hb] at hb'; cases hb'
 by_cases hz : l = []
 ·subst hz
  have hlen0 : b.len = 0 := hblen
  have hhdr : b.hdr = .slice (if b.nil then none else some ⟨b.blk, 0, none⟩) 0 b.cap := by unfold Lab.hdr; rw [hlen0]
  rw [hhdr]
  refine (h0 _ b.cap _ w).mono ?_
  rintro e w' ⟨rfl, rfl⟩
  have e1 : srtC [] = [] := List.eq_nil_of_length_eq_zero (srtC_perm []).length_eq
  rw [e1, Mem.set_self hl] at hK
  exact ⟨_, _, M, S, ρ, rfl, hK, Store.le_refl _, Env.le_refl _, hM, RV.tup_mk (vs := []) (RVs.nil _ _), Wle.refl _⟩
 rcases hcase with ⟨_, h, _⟩ | ⟨hnil, hcap, cs, hheap, hcs, hcell, hSb, hFb⟩
 ·exact absurd h hz
 have hlt := lt_of_heap hheap
 have hpos : 0 < l.length := List.length_pos_iff.2 hz
 have hsz6 : b.sz = 6 := by
  have := (hszs _ (getD_memA cfg0 hpos)).1
  exact this.symm
 rw [hsz6] at hcell hcs
 have hch : ∀ i : Fin l.length, ∃ x : CV S, x.1.1 = l[i] ∧ ∀ j, j < 6 → cs[i.1 * 6 + j]? = x.1.2[j]? := by
  intro i
  have hi := i.2
  have hg : l[i.1]? = some l[i.1] := gL hi
  have hbound : i.1 * 6 + 6 ≤ cs.size := by
   rw [hcs]
   have : (i.1 + 1) * 6 ≤ b.cap * 6 := Nat.mul_le_mul_right _ (by omega)
   omega
  refine ⟨⟨(l[i.1], (List.range 6).map fun j => cs.getD (i.1 * 6 + j) undef), ⟨by simp [encC], fun j u hu => ?_⟩, hw _ (List.getElem_mem hi)⟩, rfl, fun j hj => ?_⟩
  ·obtain ⟨v, h1, h2⟩ := hcell i.1 _ j u hg hu
   have hj : j < 6 := by
    have := (List.getElem?_eq_some_iff.1 hu).1
    simpa [encC] using this
   refine ⟨v, ?_, h2⟩
   rw [List.getElem?_map, List.getElem?_range hj]
   simp [h1]
  ·rw [List.getElem?_map, List.getElem?_range hj]
   have : i.1 * 6 + j < cs.size := by omega
   simp [this]
 let d : Array (CV S) := Array.ofFn fun i : Fin l.length => Classical.choose (hch i)
 have hdsz : d.size = l.length := by simp [d]
 have hd : ∀ i (hi : i < l.length), (d[i]!).1.1 = l[i] ∧ ∀ j, j < 6 → cs[i * 6 + j]? = (d[i]!).1.2[j]? := fun i hi => by
  have e : d[i]! = Classical.choose (hch ⟨i, hi⟩) := by
   rw [getElem!_pos d i (by omega)]
   simp [d]
  rw [e]
  exact Classical.choose_spec (hch ⟨i, hi⟩)
 have hk6 : ∀ x : CV S, x.1.2.length = 6 := fun x => x.2.1.1
 have hH : HoldsK (fun x : CV S => x.1.2) 6 w b.blk 0 d := by
  intro j hj
  have hj' : j < d.size * 6 := by simpa using hj
  refine ⟨?_, by simp [World.frozen?, hheap]⟩
  rw [Nat.zero_add]
  simp only [World.cell?, hheap]
  have h1 : j / 6 < l.length := by omega
  have h2 : j % 6 < 6 := Nat.mod_lt _ (by omega)
  have h3 := (hd (j / 6) h1).2 (j % 6) h2
  rw [show j / 6 * 6 + j % 6 = j by omega] at h3
  show cs[j]? = some (id (flatK _ 6 d)[j]!)
  rw [get_flatK _ 6 d j hj', h3]
  have h4 : j % 6 < (d[j / 6]!).1.2.length := by rw [hk6]; exact h2
  rw [gL h4]
  simp [h4]
 have hO : SWO (ltOf fun x y : CV S => cmpC x.1.1 y.1.1) := by
  refine ⟨fun x => ?_, fun x y z h1 h2 => ?_, fun x y z h1 h2 => ?_⟩
  ·simp [ltOf, cmpC_self]
  ·simp only [ltOf, decide_eq_true_eq] at *
   exact cmpC_trans h1 h2
  ·simp only [ltOf, decide_eq_false_iff_not, Int.not_lt] at *
   have g1 := cmpC_neg x.1.1 y.1.1
   have g2 := cmpC_neg y.1.1 z.1.1
   have g3 := cmpC_neg x.1.1 z.1.1
   have := cmpC_le_trans (a := z.1.1) (b := y.1.1) (c := x.1.1) (by omega) (by omega)
   omega
 have hcmp : CmpLays P g #[] (fun x : CV S => x.1.2) 6 (fun x y => cmpC x.1.1 y.1.1) b.blk 0 d.size w := by
  intro m os dk hdk x y
  have hin : S.inW (sortWorldK (fun x : CV S => x.1.2) 6 w b.blk 0 m dk os) := by
   intro k o hk
   have h1 := hM.sw k o hk
   have h2 := (Array.getElem?_eq_some_iff.1 h1).1
   have hne : k ≠ b.blk := fun e => by rw [e, hSb] at hk; cases hk
   unfold sortWorldK
   rw [heap_grow_old _ _ (by rw [size_putRowK]; exact h2)]
   show (w.heap.modify b.blk _)[k]? = _
   rw [Array.getElem?_modify, if_neg (fun e => hne e.symm)]
   exact h1
  refine ((hc x.1.1 y.1.1 x.2.2).quiet hM.gl hin (vs := [.agg x.1.2.toArray, .agg y.1.2.toArray]) (.cons ?_ (.cons ?_ (.nil S)))).mono ?_
  ·exact RP.agg_of x.2.1
  ·exact RP.agg_of y.2.1
  ·rintro e w' ⟨v, u, S', rfl, rfl, hr, q, os', rfl⟩
   cases hr
   exact ⟨rfl, q, os', rfl⟩
 have hcall := hS (CV S) (fun x => x.1.2) hk6 CV.one (fun x y => cmpC x.1.1 y.1.1) hO #[] b.blk 0 b.cap d w hcmp hH hlt (by omega)
 have hhdr : b.hdr = .slice (some ⟨b.blk, 0, none⟩) d.size b.cap := by unfold Lab.hdr; rw [hnil, hdsz, hblen]; rfl
 rw [hhdr]
 refine hcall.mono ?_
 rintro e w' ⟨rfl, d', q, os, hperm, hsort, rfl⟩
 have hd'sz : d'.size = l.length := hperm.1.trans hdsz
 have hl' : d'.toList.map (fun x => x.1.1) = srtC l := by
  refine srtC_of ?_ ?_
  ·have h1 := hperm.2.2
   have e1 : d'.extract 0 d.size = d' := by rw [show d.size = d'.size from hperm.1.symm]; simp
   have e2 : d.extract 0 d.size = d := by simp
   rw [e1, e2] at h1
   have h2 := h1.map fun x : CV S => x.1.1
   have e3 : d.toList.map (fun x => x.1.1) = l := by
    apply List.ext_getElem?
    intro i
    rw [List.getElem?_map]
    by_cases hi : i < l.length
    ·have := (hd i hi).1
     rw [getElem!_pos d i (by omega)] at this
     rw [Array.getElem?_toList, Array.getElem?_eq_getElem (by omega), gL hi, Option.map_some, this]
    ·rw [Array.getElem?_toList, Array.getElem?_eq_none (by omega), List.getElem?_eq_none (by omega)]; rfl
   rw [e3] at h2
   exact h2
  ·rw [List.pairwise_iff_getElem]
   intro i j hi hj hij
   simp only [List.length_map, Array.length_toList] at hi hj
   have := hsort i j (Nat.zero_le _) hij (by omega)
   rw [getElem!_pos d' i (by omega), getElem!_pos d' j (by omega)] at this
   simp only [ltOf, decide_eq_false_iff_not, Int.not_lt] at this
   rw [List.getElem_map, List.getElem_map, Array.getElem_toList, Array.getElem_toList]
   have g := cmpC_neg (d'[i]).1.1 (d'[j]).1.1
   omega
 let w1 := putRowK (fun x : CV S => x.1.2) 6 (Go.Sort.ahead w q) b.blk 0 d'
 have hh1 : ∀ k, k ≠ b.blk → w1.heap[k]? = w.heap[k]? := fun k hk => by
  show (w.heap.modify b.blk _)[k]? = _
  rw [Array.getElem?_modify, if_neg (fun e => hk e.symm)]
 have hh2 : w1.heap[b.blk]? = some (.cells (putCells id 0 (flatK (fun x : CV S => x.1.2) 6 d') cs) t (0, 0)) := by
  show (w.heap.modify b.blk _)[b.blk]? = _
  rw [Array.getElem?_modify, if_pos rfl, hheap]; rfl
 have hslen : (srtC l).length = l.length := (srtC_perm l).length_eq
 have hM1 : RepM S F ρ (M.set ℓ (.row t cfg0 encC (srtC l))) w1 := by
  refine hM.upd hl hb (fun k hk => hh1 k (hk.elim id fun h => absurd hnil h)) (fun _ => hnil) ?_
  refine ⟨by rw [hslen]; exact hblen, fun x _ => ⟨by rw [hsz6]; rfl, rfl⟩, .inr ⟨hnil, by rw [hslen]; exact hcap, _, hh2, by rw [hsz6, ← hcs]; simp [putCells], fun i x j u hx hu => ?_, hSb, hFb⟩⟩
  rw [hsz6]
  have hj : j < 6 := by
   have := (List.getElem?_eq_some_iff.1 hu).1
   simpa [encC] using this
  rw [← hl', List.getElem?_map] at hx
  obtain ⟨y, hy, rfl⟩ := Option.map_eq_some_iff.1 hx
  have hi : i < d'.size := by
   have := (List.getElem?_eq_some_iff.1 hy).1
   simpa using this
  have hy' : d'[i]! = y := by
   rw [getElem!_pos d' i hi]
   rw [Array.getElem?_toList, Array.getElem?_eq_getElem hi] at hy
   exact Option.some.inj hy
  obtain ⟨v, h1, h2⟩ := y.2.1.2 j u hu
  refine ⟨v, ?_, h2⟩
  have hbound : i * 6 + j < cs.size := by
   rw [hcs]
   have : (i + 1) * 6 ≤ b.cap * 6 := Nat.mul_le_mul_right _ (by omega)
   omega
  have hft : i * 6 + j < d'.size * 6 := by
   have : (i + 1) * 6 ≤ d'.size * 6 := Nat.mul_le_mul_right _ (by omega)
   omega
  simp only [putCells, Array.getElem?_mapIdx]
  rw [Array.getElem?_eq_getElem hbound, Option.map_some, if_pos ⟨Nat.zero_le _, by rw [Nat.zero_add, size_flatK]; exact hft⟩, Nat.sub_zero, get_flatK _ 6 d' _ hft]
  rw [show (i * 6 + j) / 6 = i by omega, show (i * 6 + j) % 6 = j by omega, hy']
  have h3 : j < y.1.2.length := by rw [hk6]; exact hj
  rw [gL h3] at h1
  have h4 : y.1.2[j]! = v := by rw [getElem!_pos y.1.2 j h3]; exact Option.some.inj h1
  show some (id y.1.2[j]!) = some v
  rw [h4]; rfl
 have hW1 : Wle w w1 := ⟨rfl, rfl, rfl, Nat.le_add_right _ _, by show w.heap.size ≤ (w.heap.modify _ _).size; simp, fun x hx => by
  show (putRow id (Go.Sort.ahead w q) b.blk 0 _).frozen? x = _
  rw [frozen?_putRow]; rfl⟩
 exact ⟨_, _, _, S, ρ, rfl, hK, Store.le_refl _, Env.le_refl _, hM1.grow os, RV.tup_mk (vs := []) (RVs.nil _ _), hW1.grow os⟩
end
end Go.Proofs.YtboelimimjojoaaGreatDoor
namespace Go.Proofs.YtboelimimjojoaaGreatDoor
set_option maxRecDepth 100000
set_option maxHeartbeats 16000000
section
variable {p : Pro} {q : Prp} {s : Siz} {ex : Bool}
structure SeP (p : Pro) (q : Prp) (s : Siz) (ex : Bool) (y : SrS) : Prop where
 sr : SrI p ex y.1 y.2
 og : OrgI p q s y.1
theorem OrgI.rp (S : Sys p q s) {l : List Org} (h : OrgI p q s l) {i : Nat} (hi : i < l.length) : Rp p q s ex (oAt l i).c := by
 obtain ⟨r, xs, hc⟩ := Chain.ex h i hi
 exact (hc.wn h hi).rp S
theorem OrgI.rdy (S : Sys p q s) {l : List Org} (h : OrgI p q s l) {i : Nat} (hi : i < l.length) : Rdy p s (oAt l i).c := (h.rp (ex := true) S hi).1
theorem nmC_sml {c : Cfg} (h : SmlC c) : SmlC (nmC p ex c) := by
 cases ex with
 |true => exact h
 |false => exact h.can
theorem SeP.met (S : Sys p q s) {y : SrS} (h : SeP p q s ex y) {o : Org} (ho : OrgI p q s (y.1 ++ [o])) : metL p ex y.1 y.2 o = addG (nmO p ex) y.1 o ∧ SeP p q s ex (metL p ex y.1 y.2 o, metF p ex y.1 y.2 o) := by
 have hs : ∀ k ∈ y.1, SmlC (nmC p ex k.c) := fun k hk => by
  obtain ⟨i, hi, rfl⟩ := mem_getDA org0 hk
  exact nmC_sml (h.og.rdy S hi).sml
 have hso : SmlC (nmC p ex o.c) := by
  have := ho.rdy S (i := y.1.length) (by simp)
  rw [oAt_snoc] at this
  exact nmC_sml this.sml
 have hk := h.sr.has hs hso
 cases hf : y.2 (keyB (nmC p ex o.c)) with
 |some v =>
  have hm : nmO p ex o ∈ y.1.map (nmO p ex) := hk.1 (by rw [hf]; rfl)
  have e1 : metL p ex y.1 y.2 o = y.1 := by simp only [metL, hf]
  have e2 : metF p ex y.1 y.2 o = y.2 := by simp only [metF, hf]
  rw [addG_yes _ hm, e1, e2]
  exact ⟨rfl, h⟩
 |none =>
  have hm : nmO p ex o ∉ y.1.map (nmO p ex) := fun hh => by
   have := hk.2 hh
   rw [hf] at this
   cases this
  have e1 : metL p ex y.1 y.2 o = y.1 ++ [o] := by simp only [metL, hf]
  have e2 : metF p ex y.1 y.2 o = updF y.2 (keyB (nmC p ex o.c)) (y.1.length : Int) := by simp only [metF, hf]
  rw [addG_no _ hm, e1, e2]
  exact ⟨rfl, h.sr.add hf, ho⟩
theorem SeP.exs (S : Sys p q s) {c : Cfg} {i : Nat} : ∀ (xs : List Stp) {y : SrS}, SeP p q s ex y → i < y.1.length → (oAt y.1 i).c = c → (∀ x ∈ xs, enB p s c x false ∧ apB c (rulX p x) x) →
  SeP p q s ex (exF p ex c i xs y) ∧ (exF p ex c i xs y).1 = addsG (nmO p ex) y.1 (xs.map (exO p c i))
 |[], y, h, _, _, _ => ⟨h, rfl⟩
 |x :: xs, y, h, hi, hc, hx => by
  have h1 := hx x List.mem_cons_self
  have ho : OrgI p q s (y.1 ++ [exO p c i x]) := by
   have := h.og.stp hi (x := x) (by rw [hc]; exact h1.1) (by rw [hc]; exact h1.2)
   rw [hc] at this
   exact this
  obtain ⟨e, h2⟩ := h.met S ho
  obtain ⟨m, e3⟩ := addG_pre (nmO p ex) y.1 (exO p c i x)
  have e4 : (exS p ex c i y x).1 = y.1 ++ m := e.trans e3
  obtain ⟨k1, k2⟩ := SeP.exs S (c := c) (i := i) xs (y := exS p ex c i y x) h2 (by rw [e4, List.length_append]; omega) (by rw [e4, oAt_app hi]; exact hc) (fun z hz => hx z (List.mem_cons_of_mem _ hz))
  refine ⟨k1, ?_⟩
  rw [List.map_cons, addsG_cons, ← e]
  exact k2
theorem SeP.inG (S : Sys p q s) : ∀ (cs : List Cfg) {y : SrS}, SeP p q s ex y → (∀ c ∈ cs, isI p q s c) →
  SeP p q s ex (cs.foldl (inS p ex) y) ∧ (cs.foldl (inS p ex) y).1 = addsG (nmO p ex) y.1 (cs.map fun c => ⟨c, -1, stp0⟩)
 |[], y, h, _ => ⟨h, rfl⟩
 |c :: cs, y, h, hx => by
  obtain ⟨e, h2⟩ := h.met S (h.og.ini (hx c List.mem_cons_self) stp0)
  obtain ⟨k1, k2⟩ := SeP.inG S cs (y := inS p ex y c) h2 (fun z hz => hx z (List.mem_cons_of_mem _ hz))
  refine ⟨k1, ?_⟩
  rw [List.map_cons, addsG_cons, ← e]
  exact k2
theorem SeP.nil : SeP p q s ex ([], fun _ => none) := ⟨SrI.nil p ex, OrgI.nil⟩
theorem SeP.inF (S : Sys p q s) (cs : List Cfg) (h : ∀ c ∈ cs, isI p q s c) : SeP p q s ex (inF p ex cs) ∧ (inF p ex cs).1 = addsG (nmO p ex) [] (cs.map fun c => ⟨c, -1, stp0⟩) := SeP.inG S cs SeP.nil h
def cfO (l : List Org) : List Cfg := l.map fun o => o.c
theorem cfO_get (l : List Org) (i : Nat) : (cfO l).getD i cfg0 = (oAt l i).c := by
 unfold cfO oAt
 rw [gD, gD, List.getElem?_map]
 cases l[i]? <;> rfl
theorem cfO_len (l : List Org) : (cfO l).length = l.length := by unfold cfO; rw [List.length_map]
theorem cfO_adds (l os : List Org) : cfO (addsG (nmO p ex) l os) = addsG (nmC p ex) (cfO l) (cfO os) := addsG_map (nmC p ex) (fun o : Org => o.c) os l
theorem sea_zero (S : Sys p q s) (cs : List Cfg) (h : ∀ c, c ∈ cs ↔ isI p q s c) : Sea p q s ex (cfO (inF p ex cs).1) 0 := by
 rw [(SeP.inF S cs fun c hc => (h c).1 hc).2, cfO_adds]
 have e : cfO (cs.map fun c => (⟨c, -1, stp0⟩ : Org)) = cs := by
  unfold cfO
  rw [List.map_map]
  exact List.map_id cs
 rw [e]
 exact Sea.zero cs (fun c hc => (Wn.ini ((h c).1 hc)).rp S) fun c hc => List.mem_map.2 ⟨c, (h c).2 hc, rfl⟩
theorem sea_next (S : Sys p q s) {y : SrS} {i : Nat} (h : SeP p q s ex y) (hs : Sea p q s ex (cfO y.1) i) (hi : i < y.1.length) {c : Cfg} (hc : (oAt y.1 i).c = c) (ha : ∀ x ∈ stA p s c p.rules.length, apB c (rulX p x) x) :
  SeP p q s ex (exF p ex c i (stA p s c p.rules.length) y) ∧ Sea p q s ex (cfO (exF p ex c i (stA p s c p.rules.length) y).1) (i + 1) := by
 obtain ⟨h1, h2⟩ := h.exs S (stA p s c p.rules.length) hi hc fun x hx => ⟨stA_mem.1 hx, ha x hx⟩
 refine ⟨h1, ?_⟩
 rw [h2, cfO_adds]
 have hr := h.og.rp (ex := ex) S hi
 rw [hc] at hr
 refine hs.next (by rw [cfO_len]; exact hi) _ (fun d hd => ?_) fun x he => ?_
 ·unfold cfO at hd
  rw [List.map_map] at hd
  obtain ⟨x, hx, rfl⟩ := List.mem_map.1 hd
  exact hr.next S (stA_mem.1 hx) (ha x hx)
 ·rw [cfO_get, hc] at he ⊢
  have hx := stA_mem.2 he
  refine ⟨ha x hx, ?_⟩
  unfold cfO
  rw [List.map_map, List.map_map]
  exact List.mem_map.2 ⟨x, hx, rfl⟩
end
def lm5 : LMap := [(7001, .old 7001), (7002, .old 7002), (7003, .old 7003), (7004, .old 7005)]
def lmX : LMap := [(7001, .old 7001), (7002, .old 7002), (7004, .old 7003), (7005, .old 7004)]
def srX (p : Pro) (s : Siz) (ex : Bool) (l : List Org) (f : ByteArray → Option Int) : List (Nat × Blk) := [(7001, bxS p s ex 7005 l.length), (7002, mpS f), (7004, .dead), (7005, rowOg l)]
theorem allF (p : Pro) (q : Prp) (s : Siz) (ex : Bool) (S : Sys p q s) (y0 : SrS) (h0 : SeP p q s ex y0) (hs0 : Sea p q s ex (cfO y0.1) 0) :
  Spec Tryz.prog 47 [.ptr 7001 0] (Mem.ofL (srM p s ex y0.1 y0.2)) (fun u M =>
   (∃ y : SrS, SeP p q s ex y ∧ Sea p q s ex (cfO y.1) y.1.length ∧ y.1.length ≤ 4000 ∧ u = .int .i64 0 ∧ M = Mem.ofL (srN p s ex y.1 y.2)) ∨
   ((¬ ∃ L, Clo p q s ex L ∧ L.length ≤ 4000) ∧ u = .int .i64 4 ∧ ∃ y : SrS, M = Mem.ofL (srN p s ex y.1 y.2))) := by
 refine Spec.renorm 400 (R := fun u M => (∃ y : SrS, SeP p q s ex y ∧ Sea p q s ex (cfO y.1) y.1.length ∧ y.1.length ≤ 4000 ∧ u = .int .i64 0 ∧ memR lm4 400 M (srN p s ex y.1 y.2)) ∨
   ((¬ ∃ L, Clo p q s ex L ∧ L.length ≤ 4000) ∧ u = .int .i64 4 ∧ ∃ y : SrS, memR lm4 400 M (srN p s ex y.1 y.2) ∨ memR lm5 400 M (srN p s ex y.1 y.2))) ?_ ?_
 case refine_2 =>
  rintro u M (⟨y, h1, h2, h3, rfl, h4⟩ | ⟨h1, rfl, y, h4 | h4⟩)
  ·exact ⟨lm4, _, .int .i64 0, rfl, h4, rfl, .inl ⟨y, h1, h2, h3, rfl, rfl⟩⟩
  ·exact ⟨lm4, _, .int .i64 4, rfl, h4, rfl, .inr ⟨h1, rfl, y, rfl⟩⟩
  ·exact ⟨lm5, _, .int .i64 4, rfl, h4, rfl, .inr ⟨h1, rfl, y, rfl⟩⟩
 refine Spec.intro tt_ok mx_ok (srM p s ex y0.1 y0.2) Tryz.func47 rfl (by decide) ?_
 conv => whnf
 refine WPc.loopF tt_ok mx_ok (fun z : Nat × SrS => SeP p q s ex z.2 ∧ Sea p q s ex (cfO z.2.1) z.1) (fun z => [(3, .int .i64 (z.1 : Int))]) (fun z => srN p s ex z.2.1 z.2.2) (fun z => 4001 - z.1) (0, y0) ⟨h0, hs0⟩ ?_; conv => whnf
 refine ⟨Sub.by_ [(7001, .old 7001), (7002, .old 7002), (7003, .old 7003), (7004, .old 7003)] _ 400 rfl (auto_) (auto_), ?_⟩
 rintro ⟨k, y⟩ ⟨h1, h2⟩
 dsimp only at h1 h2 ⊢
 have hle := h2.le
 rw [cfO_len] at hle
 conv => whnf
 refine cmpI ?_ ?_ <;> (intro g1; conv => whnf)
 ·have hlt : k < y.1.length := by omega
  refine cmpI ?_ ?_ <;> (intro g2; conv => whnf)
  ·exact .inr ⟨h2.many S (by rw [cfO_len]; omega), rfl, y, .inl (auto_)⟩
  ·have hr := h1.og.rdy S hlt
   refine Spec.call [(7001, .old 7001), (7002, .old 7002), (7003, .old 7004)] (srM p s ex y.1 y.2) 400 rfl (auto_) (auto_) (expandF p s ex y k (oAt y.1 k) rfl hlt (by omega) hr (fun x he ha => ⟨(hr.next he ha).wide, (hr.next he ha).plain⟩)) ?_
   rintro u M' (⟨ha, rfl, rfl⟩ | ⟨ho, rfl, z, rfl⟩)
   ·obtain ⟨k1, k2⟩ := sea_next S h1 h2 hlt rfl ha
    generalize exF p ex (oAt y.1 k).c k (stA p s (oAt y.1 k).c p.rules.length) y = y2 at k1 k2 ⊢
    refine ⟨lmX, srX p s ex y2.1 y2.2, .int .i64 0, rfl, (auto_), rfl, ?_⟩
    conv => whnf
    refine fI ?_
    conv => whnf
    repeat' ((first|refine nI ?_|refine aI ?_|refine tI ?_|refine fI ?_|fail);conv => whnf)
    refine ⟨(k + 1, y2), ?_, ⟨k1, k2⟩, by dsimp only; omega⟩
    dsimp only
    exact Sub.by_ [(7001, .old 7001), (7002, .old 7002), (7003, .old 7003), (7004, .old 7005)] _ 400 rfl (auto_) (auto_)
   ·refine ⟨lmX, srX p s ex z.1 z.2, .int .i64 4, rfl, (auto_), rfl, ?_⟩
    conv => whnf
    refine tI ?_
    conv => whnf
    refine .inr ⟨h2.over S (j := k) (by rw [cfO_len]; exact hlt) (by rw [cfO_get]; exact ho), rfl, z, ?_⟩
    exact .inr (auto_)
 ·refine cmpI ?_ ?_ <;> (intro g2; conv => whnf)
  ·exact .inr ⟨h2.many S (by rw [cfO_len]; omega), rfl, y, .inl (auto_)⟩
  ·obtain rfl : k = y.1.length := by omega
   exact .inl ⟨y, h1, h2, by omega, rfl, auto_⟩
end Go.Proofs.YtboelimimjojoaaGreatDoor
namespace Go.Proofs.YtboelimimjojoaaGreatDoor
set_option maxRecDepth 100000
theorem stA_le8 {p : Pro} {s : Siz} {c : Cfg} (h : Rdy p s c) : (stA p s c p.rules.length).length ≤ 2160 := by
 have h1 := stA_len p s c p.rules.length
 have hle := bigP_le h.big
 have hl : c.states.length ≤ 8 := by
  have h2 := h.vc.len
  have h3 := h.sz
  unfold modN at h2
  split at h2 <;> omega
 have h4 : c.states.length * (c.states.length + 1) ≤ 8 * 9 := Nat.mul_le_mul hl (by omega)
 have h5 : p.rules.length * (c.states.length * (c.states.length + 1)) ≤ 30 * 72 := Nat.mul_le_mul (by omega) h4
 omega
section
variable {p : Pro} {q : Prp} {s : Siz}
def iniK (p : Pro) (q : Prp) (s : Siz) : Prop := iniB (iniF p s).length (chF p q s) (modN p s).toNat
noncomputable instance decIniK (p : Pro) (q : Prp) (s : Siz) : Decidable (iniK p q s) := Classical.propDecidable _
def iniX (p : Pro) (q : Prp) (s : Siz) : List Cfg := iniL p s (iniF p s) (prodK (chF p q s) (modN p s).toNat)
theorem iniX_mem (S : Sys p q s) {c : Cfg} : c ∈ iniX p q s ↔ isI p q s c := ini_mem S.siz.1 S.siz.2
theorem iniA_yes (h : iniK p q s) : iniA p q s = rpA (iniX p q s) 0 := if_pos h
theorem iniA_no (h : ¬ iniK p q s) : iniA p q s = rpA [] 4 := if_neg h
theorem iniD_yes (h : iniK p q s) : iniD p q s = (iniX p q s, true) := if_pos h
theorem iniD_no (h : ¬ iniK p q s) : iniD p q s = ([], false) := if_neg h
theorem rpA_inj {l m : List Cfg} {e f : Int} (h : rpA l e = rpA m f) : l = m ∧ e = f := by
 unfold rpA at h
 injection h with h
 injection h with h1 h2
 injection h2 with h2 _
 injection h2 with h2 h3
 injection h1 with _ h4 h5 h6
 exact ⟨h6, h3⟩
theorem iniX_le (S : Sys p q s) (h : iniK p q s) : (iniX p q s).length ≤ 4000 ∧ ∀ k, k < (iniX p q s).length → wideB ((iniX p q s).getD k cfg0) = false ∧ plB p ((iniX p q s).getD k cfg0) := by
 obtain ⟨l, e, h1, h2, _⟩ := iniE_ok p q s S.hp
 have hz : ¬ sizQ p q s ≠ 0 := fun hh => hh S.hz
 unfold iniE at h1
 rw [if_neg hz, iniA_yes h] at h1
 obtain ⟨rfl, _⟩ := rpA_inj h1
 refine ⟨h2, fun k hk => ?_⟩
 have hr := S.rdy ((iniX_mem S).1 (getD_memA cfg0 hk))
 exact ⟨hr.wide, hr.plain⟩
open Classical in
noncomputable def rchA (p : Pro) (q : Prp) (s : Siz) : AV := if h : ∃ L, Clo p q s false L ∧ L.length ≤ 4000 then rpA (srtC ((Classical.choose h).map (canC p))) 0 else rpA [] 4
theorem srtC_eq {l m : List Cfg} (h : l.Perm m) : srtC l = srtC m := srtC_of ((srtC_perm l).trans h) (srtC_up l)
theorem rchA_yes (S : Sys p q s) {L : List Cfg} (h : Clo p q s false L) (hl : L.length ≤ 4000) : rchA p q s = rpA (srtC (L.map (canC p))) 0 := by
 have hex : ∃ L, Clo p q s false L ∧ L.length ≤ 4000 := ⟨L, h, hl⟩
 unfold rchA
 rw [dif_pos hex]
 have h2 := (Classical.choose_spec hex).1.perm S h
 have e : srtC ((Classical.choose hex).map (canC p)) = srtC (L.map (canC p)) := srtC_eq h2
 rw [e]
theorem rchA_no (h : ¬ ∃ L, Clo p q s false L ∧ L.length ≤ 4000) : rchA p q s = rpA [] 4 := by
 unfold rchA
 rw [dif_neg h]
noncomputable def rchE (p : Pro) (q : Prp) (s : Siz) : AV := if sizQ p q s ≠ 0 then rpA [] (sizQ p q s) else if iniK p q s then rchA p q s else rpA [] 4
theorem srtC_asc {l : List Cfg} (h : l.Nodup) : ascC (srtC l) := by
 have h1 : (srtC l).Nodup := (srtC_perm l).nodup_iff.2 h
 unfold ascC
 exact ((srtC_up l).and h1).imp fun {a b} hab => by
  have h2 := hab.1
  have h3 : cmpC a b ≠ 0 := fun e => hab.2 (cmpC_same e)
  omega
structure All (p : Pro) (q : Prp) (s : Siz) (l : List Cfg) : Prop where
 asc : ascC l
 le : l.length ≤ 4000
 mem : ∀ k, k ∈ l ↔ ∃ n c, Wn p q s n c ∧ canC p c = k
 rep : ∀ k ∈ l, Rp p q s false k ∧ canC p k = k
 ap : ∀ k ∈ l, ∀ x, enB p s k x false → apB k (rulX p x) x
theorem Clo.all_ (S : Sys p q s) {L : List Cfg} (h : Clo p q s false L) (hl : L.length ≤ 4000) : All p q s (srtC (L.map (canC p))) := by
 have hm : ∀ k, k ∈ srtC (L.map (canC p)) ↔ k ∈ L.map (canC p) := fun k => (srtC_perm _).mem_iff
 have hr : ∀ k ∈ srtC (L.map (canC p)), Rp p q s false k ∧ canC p k = k := fun k hk => by
  obtain ⟨c, hc, rfl⟩ := List.mem_map.1 ((hm k).1 hk)
  exact ⟨(h.rep c hc).can, canC_idem p (h.rep c hc).1.plain.2.2⟩
 refine ⟨srtC_asc h.dis, by rw [(srtC_perm _).length_eq, List.length_map]; exact hl, fun k => (hm k).trans (h.mem S k), hr, fun k hk x he => h.ok S (hr k hk).1 he⟩
theorem rchE_cases (p : Pro) (q : Prp) (s : Siz) (hp : ¬ bigP p) (hq : ¬ bigQ q) : (∃ l, rchE p q s = rpA l 0 ∧ All p q s l ∧ Sys p q s ∧ iniK p q s) ∨ ∃ e, e ≠ 0 ∧ rchE p q s = rpA [] e := by
 unfold rchE
 by_cases h0 : sizQ p q s ≠ 0
 ·rw [if_pos h0]; exact .inr ⟨_, h0, rfl⟩
 rw [if_neg h0]
 have S : Sys p q s := ⟨hp, hq, by omega⟩
 by_cases h1 : iniK p q s
 ·rw [if_pos h1]
  by_cases h2 : ∃ L, Clo p q s false L ∧ L.length ≤ 4000
  ·obtain ⟨L, h3, h4⟩ := h2
   rw [rchA_yes S h3 h4]
   exact .inl ⟨_, rfl, h3.all_ S h4, S, h1⟩
  ·rw [rchA_no h2]; exact .inr ⟨4, by decide, rfl⟩
 ·rw [if_neg h1]; exact .inr ⟨4, by decide, rfl⟩
theorem rchE_form (p : Pro) (q : Prp) (s : Siz) (hp : ¬ bigP p) (hq : ¬ bigQ q) : ∃ l e, rchE p q s = rpA l e ∧ l.length ≤ 4000 ∧ ∀ d ∈ l, wideB d = false := by
 rcases rchE_cases p q s hp hq with ⟨l, h1, h2, _⟩ | ⟨e, _, h1⟩
 ·exact ⟨l, 0, h1, h2.le, fun d hd => (h2.rep d hd).1.1.wide⟩
 ·exact ⟨[], e, h1, by simp, by simp⟩
def rn0 : Rn := ⟨cfg0, []⟩
structure ShB (p : Pro) (q : Prp) (s : Siz) (r : Rn) (is : Bool) (e : Int) : Prop where
 no : is = false → r = rn0
 yes : is = true → e = 0 ∧ vioB p q s r ∧ wideB r.start = false
 out : (¬ iniK p q s ∧ is = false ∧ e = 4) ∨ (iniK p q s ∧ ∃ n, n ≤ 4000 ∧ ShP p q s n is e ∧ (is = true → r.steps.length = n))
theorem ShB.one {r r' : Rn} {is is' : Bool} {e e' : Int} (h : ShB p q s r is e) (k : ShB p q s r' is' e') : is = is' ∧ e = e' ∧ r.steps.length = r'.steps.length := by
 have hlen : is = is' → (is = true → r.steps.length = r'.steps.length) → r.steps.length = r'.steps.length := by
  intro e1 h1
  cases hi : is with
  |true => exact h1 hi
  |false => rw [h.no hi, k.no (by rw [← e1]; exact hi)]
 rcases h.out with ⟨a1, a2, a3⟩ | ⟨a1, n, _, a2, a3⟩ <;> rcases k.out with ⟨b1, b2, b3⟩ | ⟨b1, m, _, b2, b3⟩
 ·exact ⟨by rw [a2, b2], by rw [a3, b3], hlen (by rw [a2, b2]) (by rw [a2]; intro hh; cases hh)⟩
 ·exact absurd b1 a1
 ·exact absurd a1 b1
 ·obtain ⟨rfl, e1, e2⟩ := a2.one b2
  exact ⟨e1, e2, hlen e1 fun hh => by rw [a3 hh, b3 (by rw [← e1]; exact hh)]⟩
structure ShA (p : Pro) (q : Prp) (s : Siz) (r : Rn) (is : Bool) (e : Int) : Prop where
 bad : sizQ p q s ≠ 0 → r = rn0 ∧ is = false ∧ e = sizQ p q s
 cls : sizQ p q s = 0 → q.kind ≠ 1 → r = rn0 ∧ is = false ∧ e = 7
 ok : sizQ p q s = 0 → q.kind = 1 → ShB p q s r is e
theorem ShA.one {r r' : Rn} {is is' : Bool} {e e' : Int} (h : ShA p q s r is e) (k : ShA p q s r' is' e') : is = is' ∧ e = e' ∧ r.steps.length = r'.steps.length := by
 by_cases h0 : sizQ p q s = 0
 ·by_cases h1 : q.kind = 1
  ·exact (h.ok h0 h1).one (k.ok h0 h1)
  ·obtain ⟨a1, a2, a3⟩ := h.cls h0 h1
   obtain ⟨b1, b2, b3⟩ := k.cls h0 h1
   exact ⟨by rw [a2, b2], by rw [a3, b3], by rw [a1, b1]⟩
 ·obtain ⟨a1, a2, a3⟩ := h.bad h0
  obtain ⟨b1, b2, b3⟩ := k.bad h0
  exact ⟨by rw [a2, b2], by rw [a3, b3], by rw [a1, b1]⟩
theorem ShA.yes {r : Rn} {is : Bool} {e : Int} (h : ShA p q s r is e) (hi : is = true) : e = 0 ∧ vioB p q s r ∧ wideB r.start = false ∧ r.steps.length ≤ 4000 := by
 by_cases h0 : sizQ p q s = 0
 ·by_cases h1 : q.kind = 1
  ·have h2 := h.ok h0 h1
   obtain ⟨k1, k2, k3⟩ := h2.yes hi
   refine ⟨k1, k2, k3, ?_⟩
   rcases h2.out with ⟨_, a, _⟩ | ⟨_, n, hn, _, a⟩
   ·rw [a] at hi; cases hi
   ·rw [a hi]; exact hn
  ·have := (h.cls h0 h1).2.1; rw [this] at hi; cases hi
 ·have := (h.bad h0).2.1; rw [this] at hi; cases hi
theorem ShA.no {r : Rn} {is : Bool} {e : Int} (h : ShA p q s r is e) (hi : is = false) : r = rn0 := by
 by_cases h0 : sizQ p q s = 0
 ·by_cases h1 : q.kind = 1
  ·exact (h.ok h0 h1).no hi
  ·exact (h.cls h0 h1).1
 ·exact (h.bad h0).1
theorem ShA.least (hp : ¬ bigP p) (hq : ¬ bigQ q) {r : Rn} {is : Bool} {e : Int} (h : ShA p q s r is e) (he : e = 0) {t : Rn} (ht : vioB p q s t) : is = true ∧ r.steps.length ≤ t.steps.length := by
 have S : Sys p q s := ⟨hp, hq, ht.1⟩
 have hb : BadAt p q s t.steps.length := by
  refine ⟨_, ?_, ht.2.2.2.2⟩
  have := (Wn.ini ht.2.2.1).of_run ht.2.2.2.1
  rw [Nat.zero_add] at this
  exact this
 rcases (h.ok ht.1 ht.2.1).out with ⟨_, _, a⟩ | ⟨_, n, _, a1, a2⟩
 ·omega
 ·obtain ⟨k1, k2⟩ := a1.least S he hb
  exact ⟨k1, by rw [a2 k1]; exact k2⟩
def shU (P : Rn → Bool → Int → Prop) : AV → Prop := fun u => ∃ r is e, u = .tup (.agg (encRn r) :: [.bool is, .int .i64 e]) ∧ P r is e
end
end Go.Proofs.YtboelimimjojoaaGreatDoor
namespace Go.Proofs.YtboelimimjojoaaGreatDoor
set_option maxRecDepth 100000
set_option maxHeartbeats 16000000
def revS (l : List Stp) (k : Nat) : List Stp := (List.range l.length).map fun j => if j < k ∨ l.length ≤ j + k then l.getD (l.length - 1 - j) stp0 else l.getD j stp0
theorem revS_len (l : List Stp) (k : Nat) : (revS l k).length = l.length := by simp [revS]
theorem revS_get (l : List Stp) (k : Nat) {j : Nat} (h : j < l.length) : (revS l k).getD j stp0 = if j < k ∨ l.length ≤ j + k then l.getD (l.length - 1 - j) stp0 else l.getD j stp0 := by
 unfold revS
 rw [gD, List.getElem?_map, List.getElem?_range h]
 rfl
theorem ext_getD {l m : List Stp} (h : l.length = m.length) (hj : ∀ j, j < l.length → l.getD j stp0 = m.getD j stp0) : l = m := by
 apply List.ext_getElem h
 intro j h1 h2
 have := hj j h1
 rw [gD, gD, gL h1, gL h2] at this
 exact this
theorem revS_zero (l : List Stp) : revS l 0 = l := by
 refine ext_getD (revS_len l 0) fun j hj => ?_
 rw [revS_len] at hj
 rw [revS_get l 0 hj, if_neg (by omega)]
theorem revS_all {l : List Stp} {k : Nat} (h : l.length ≤ k + k + 1) : revS l k = l.reverse := by
 refine ext_getD (by rw [revS_len, List.length_reverse]) fun j hj => ?_
 rw [revS_len] at hj
 have e : l.reverse.getD j stp0 = l.getD (l.length - 1 - j) stp0 := by
  rw [gD, gD, List.getElem?_reverse hj]
 rw [revS_get l k hj, e]
 split
 ·rfl
 ·congr 1
  omega
theorem set_getD (l : List Stp) (i : Nat) (x : Stp) (j : Nat) (hi : i < l.length) : (l.set i x).getD j stp0 = if j = i then x else l.getD j stp0 := by
 rw [gD, List.getElem?_set]
 by_cases h : i = j
 ·subst h; rw [if_pos rfl, if_pos hi, if_pos rfl]; rfl
 ·rw [if_neg h, if_neg (fun e => h e.symm), gD]
theorem revS_up {l : List Stp} {k : Nat} (h : k + k + 1 < l.length) : ((revS l k).set k ((revS l k).getD (l.length - 1 - k) stp0)).set (l.length - 1 - k) ((revS l k).getD k stp0) = revS l (k + 1) := by
 have hl := revS_len l k
 refine ext_getD (by rw [List.length_set, List.length_set, revS_len, revS_len]) fun j hj => ?_
 rw [List.length_set, List.length_set, hl] at hj
 rw [set_getD _ _ _ _ (by rw [List.length_set, hl]; omega), set_getD _ _ _ _ (by rw [hl]; omega), revS_get l _ hj, revS_get l _ hj, revS_get l k (by omega), revS_get l k (by omega)]
 by_cases h1 : j = l.length - 1 - k
 ·subst h1
  rw [if_pos rfl, if_neg (by omega), if_pos (by omega)]
  congr 1
  omega
 ·rw [if_neg h1]
  by_cases h2 : j = k
  ·subst h2
   rw [if_pos rfl, if_neg (by omega), if_pos (by omega)]
  ·rw [if_neg h2]
   by_cases h3 : j < k ∨ l.length ≤ j + k
   ·rw [if_pos h3, if_pos (by omega)]
   ·rw [if_neg h3, if_neg (by omega)]
theorem Chain.len_le {l : List Org} {i r : Nat} {xs : List Stp} (h : Chain l i r xs) : xs.length ≤ i := by
 induction h with
 |root h => exact Nat.zero_le _
 |step hj _ _ ih => rw [List.length_append, List.length_singleton]; omega
def runA (c : Cfg) (n : Nat) : AV := .agg [.row 8001 c.shape.length 1, .row 8002 c.states.length 1, .int .i64 c.correct, .row 8003 c.sent.length 1, .row 8004 c.faulty.length 1, .int .i64 c.value, .row 8005 n 3]
def runM (c : Cfg) (xs : List Stp) : List (Nat × Blk) := [(8001, rowN c.shape), (8002, rowN c.states), (8003, rowN c.sent), (8004, rowN c.faulty), (8005, rowX xs)]
def bxR0 : Blk := .box 39 [.nilsl, .nilsl, .int .i64 0, .nilsl, .nilsl, .int .i64 0, .nilsl]
def lmR : LMap := [(7001, .old 7001), (7002, .old 7002), (7003, .old 7003), (8001, .old 1001), (8002, .old 1002), (8003, .old 1003), (8004, .old 1004), (8005, .old 1000)]
theorem runF (p : Pro) (s : Siz) (ex : Bool) (l : List Org) (f : ByteArray → Option Int) (i r : Nat) (xs : List Stp) (hc : Chain l i r xs) (hi : i < l.length) (hl : l.length ≤ 100000000) (hw : wideB (oAt l r).c = false) :
  Spec Tryz.prog 84 [.ptr 7001 0, .int .i64 (i : Int)] (Mem.ofL (srM p s ex l f)) (fun u M => u = runA (oAt l r).c xs.length ∧ M = Mem.ofL (srM p s ex l f ++ runM (oAt l r).c xs)) := by
 have hxl := hc.len_le
 refine Spec.renorm 400 (R := fun u M => avR lmR 400 u (runA (oAt l r).c xs.length) ∧ memR lmR 400 M (srM p s ex l f ++ runM (oAt l r).c xs)) ?_ ?_
 case refine_2 =>
  rintro u M ⟨h1, h2⟩
  exact ⟨lmR, _, runA (oAt l r).c xs.length, rfl, h2, h1, rfl, rfl⟩
 refine Spec.intro tt_ok mx_ok (srM p s ex l f) Tryz.func84 rfl (by decide) ?_
 conv => whnf
 refine WPc.loopF tt_ok mx_ok (fun z : Nat × List Stp => z.1 < l.length ∧ z.2.length + z.1 ≤ i ∧ ∃ ys, Chain l z.1 r ys ∧ xs = ys ++ z.2.reverse) (fun z => [(1, .int .i64 (z.1 : Int)), (5, .row 1000 z.2.length 3)]) (fun z => (1000, rowX z.2) :: (4, bxR0) :: srM p s ex l f) (fun z => z.1) (i, []) ⟨hi, by simp, xs, hc, by simp⟩ ?_; conv => whnf
 refine ⟨Sub.by_ [(1000, .nil 3), (4, .old 4), (7001, .old 7001), (7002, .old 7002), (7003, .old 7003)] _ 400 rfl (auto_) (auto_), ?_⟩
 rintro ⟨k, acc⟩ ⟨h1, h2, ys, h3, h4⟩
 dsimp only at h1 h2 h3 h4 ⊢
 conv => whnf
 refine nI ?_
 rw [tN]
 conv => whnf
 refine cmpI ?_ ?_ <;> (intro g1; conv => whnf)
 ·cases h3 with
  |root hs =>
   exfalso
   have hs' : (l.getD _ org0).src = -1 := hs
   omega
  |@step _ j _ ys' hj hs h3' =>
   have hs' : (l.getD k org0).src = (j : Int) := hs
   refine nI ?_
   rw [tN]
   conv => whnf
   refine bldI stp0 encX [(l.getD k org0).st] rfl ?_
   conv => whnf
   refine appI [(l.getD k org0).st] rfl lI ?_
   conv => whnf
   refine nI ?_
   rw [tN]
   conv => whnf
   rw [hs']
   refine ⟨(j, acc ++ [(l.getD k org0).st]), ?_, ⟨by dsimp only; omega, by simp only [List.length_append, List.length_singleton]; omega, ys', h3', ?_⟩, by dsimp only; omega⟩
   ·dsimp only
    exact Sub.by_ [(1000, .old 35), (4, .old 4), (7001, .old 7001), (7002, .old 7002), (7003, .old 7003)] _ 400 rfl (auto_) (auto_)
   ·rw [h4]
    simp
 ·have hkr : k = r ∧ xs = acc.reverse := by
   cases h3 with
   |root hs => exact ⟨rfl, by simpa using h4⟩
   |step hj hs _ =>
    exfalso
    have hs' : (l.getD k org0).src = _ := hs
    omega
  obtain ⟨rfl, hx⟩ := hkr
  refine aI ?_
  conv => whnf
  refine WPc.loopF tt_ok mx_ok (fun m : Nat => m ≤ acc.length) (fun m => [(6, .int .i64 (m : Int)), (7, .int .i64 ((acc.length : Int) - 1 - m))]) (fun m => (1000, rowX (revS acc m)) :: (4, bxR0) :: srM p s ex l f) (fun m => acc.length - m) 0 (Nat.zero_le _) ?_; conv => whnf
  refine ⟨by rw [revS_zero]; exact Sub.by_ [(1000, .old 1000), (4, .old 4), (7001, .old 7001), (7002, .old 7002), (7003, .old 7003)] _ 400 rfl (auto_) (auto_), ?_⟩
  rintro m hm
  conv => whnf
  refine cmpI ?_ ?_ <;> (intro g2; conv => whnf)
  ·refine dI ?_
   conv => whnf
   have hup := revS_up (l := acc) (k := m) (by omega)
   refine nI ?_
   rw [show ((acc.length : Int) - 1 - (m : Int)).toNat = acc.length - 1 - m by omega]
   conv => whnf
   refine nI ?_
   rw [tN]
   conv => whnf
   refine nI ?_
   rw [tN]
   conv => whnf
   refine rowSetI ((revS acc m).getD (acc.length - 1 - m) stp0) rfl ?_
   conv => whnf
   refine nI ?_
   rw [show ((acc.length : Int) - 1 - (m : Int)).toNat = acc.length - 1 - m by omega]
   conv => whnf
   refine rowSetI ((revS acc m).getD m stp0) rfl ?_
   conv => whnf
   repeat' ((first|refine nI ?_|refine aI ?_|refine tI ?_|refine fI ?_|fail);conv => whnf)
   refine ⟨m + 1, ?_, by omega, by dsimp only; omega⟩
   dsimp only
   rw [← hup]
   exact Sub.by_ [(1000, .old 1000), (4, .old 4), (7001, .old 7001), (7002, .old 7002), (7003, .old 7003)] _ 400 rfl (auto_) (auto_)
  ·have hrev : revS acc m = xs := by rw [hx, revS_all (by omega)]
   rw [hrev]
   have hlen : acc.length = xs.length := by rw [hx, List.length_reverse]
   refine nI ?_
   rw [tN]
   conv => whnf
   refine Spec.news 400 (lmC 5 9 13 17) (memC (oAt l k).c) (cfgL (oAt l k).c) (cloneL (oAt l k).c hw) (auto_) rfl outC ?_
   conv => whnf
   rw [hlen]
   exact ⟨auto_, auto_⟩
theorem initialK (p : Pro) (q : Prp) (s : Siz) (S : Sys p q s) : PSpec Tryz.prog 77 [.agg (encP p), .agg (encQ q), .agg (encZ s)] (fun u => u = iniA p q s) :=
 PSpec.rp (iniA_form p q s) (initialF p q s S.hp S.hq S.siz.1 S.siz.2)
theorem beginK (p : Pro) (q : Prp) (s : Siz) (ex : Bool) (S : Sys p q s) :
  Spec Tryz.prog 46 [.agg (encP p), .agg (encQ q), .agg (encZ s), .bool ex] (Mem.ofL []) (fun u M =>
   (¬ iniK p q s ∧ u = .tup [.val (.pointer none), .int .i64 4]) ∨ (iniK p q s ∧ u = .tup [.ptr 7001 0, .int .i64 0] ∧ M = Mem.ofL (srM p s ex (inF p ex (iniX p q s)).1 (inF p ex (iniX p q s)).2))) := by
 have hI := initialK p q s S
 by_cases h : iniK p q s
 ·rw [iniA_yes h] at hI
  obtain ⟨h1, h2⟩ := iniX_le S h
  refine (beginF p q s ex (iniX p q s) 0 hI (by omega) h2).mono ?_
  rintro u M (⟨h3, _⟩ | ⟨_, h4, h5⟩)
  ·exact absurd rfl h3
  ·exact .inr ⟨h, h4, h5⟩
 ·rw [iniA_no h] at hI
  refine (beginF p q s ex [] 4 hI (by simp) (fun k hk => absurd hk (Nat.not_lt_zero _))).mono ?_
  rintro u M (⟨_, h4⟩ | ⟨h3, _⟩)
  ·exact .inl ⟨h, h4⟩
  ·exact absurd h3 (by decide)
def rnN : List AV := [.nilsl, .nilsl, .int .i64 0, .nilsl, .nilsl, .int .i64 0, .nilsl]
def shV (P : Rn → Bool → Int → Prop) : AV → Prop := fun u => shU P u ∨ ∃ is e, u = .tup (.agg rnN :: [.bool is, .int .i64 e]) ∧ P rn0 is e
theorem PSpec.sh {f : FuncId} {args : List AV} {Q : Rn → Bool → Int → Prop} (h : PSpec Tryz.prog f args (shV Q)) : PSpec Tryz.prog f args (shU Q) := by
 refine PSpec.sub h ?_
 rintro u (⟨r, is, e, rfl, hQ⟩ | ⟨is, e, rfl, hQ⟩)
 ·exact ⟨_, ⟨r, is, e, rfl, hQ⟩, auto_, rfl⟩
 ·exact ⟨_, ⟨rn0, is, e, rfl, hQ⟩, auto_, rfl⟩
theorem ShB.found {p : Pro} {q : Prp} {s : Siz} (S : Sys p q s) (hi : iniK p q s) (hk : q.kind = 1) {l : List Org} {lo n i r : Nat} {xs : List Stp} (h : Lev p q s l lo n) (h1 : lo ≤ i) (h2 : i < l.length) (hb : badB p q (oAt l i).c) (hc : Chain l i r xs) :
  ShB p q s ⟨(oAt l r).c, xs⟩ true 0 := by
 obtain ⟨k1, k2, k3⟩ := hc.run h.og h2
 have e := h.len i r xs h1 h2 hc
 refine ⟨(fun hh => by cases hh), fun _ => ⟨rfl, ⟨S.hz, hk, k1, k2, ?_⟩, (S.rdy k1).wide⟩, .inr ⟨hi, n, ?_, h.badS S h1 h2 hb, fun _ => e⟩⟩
 ·show badB p q ((trs p (oAt l r).c xs).getD xs.length cfg0)
  rw [k3]; exact hb
 ·have := h.num
  have := h.few
  omega
theorem ShB.none_ {p : Pro} {q : Prp} {s : Siz} (hi : iniK p q s) {l : List Org} {lo n : Nat} {e : Int} (h : Lev p q s l lo n) (hs : ShP p q s n false e) : ShB p q s rn0 false e :=
 ⟨fun _ => rfl, fun hh => (by cases hh), .inr ⟨hi, n, by have := h.num; have := h.few; omega, hs, fun hh => (by cases hh)⟩⟩
def lmS : LMap := [(6, .old 6), (7001, .old 7001), (7002, .old 7002), (7003, .old 7003)]
def lmT : LMap := [(6, .old 6), (7001, .old 7001), (7002, .old 7002), (7003, .old 7004)]
theorem shortestF (p : Pro) (q : Prp) (s : Siz) (S : Sys p q s) (hq1 : q.kind = 1) : PSpec Tryz.prog 42 [.agg (encP p), .agg (encQ q), .agg (encZ s)] (shU (ShB p q s)) := by
 refine PSpec.sh ?_
 have hok := prop_ok S.siz.1 hq1
 refine PSpec.intro tt_ok mx_ok Tryz.func42 rfl (by decide) ?_; (conv => whnf)
 refine boxP rfl ?_
 conv => whnf
 refine boxP rfl ?_
 conv => whnf
 refine boxP rfl ?_
 conv => whnf
 refine Spec.call [] [] 400 rfl trivial (auto_) (beginK p q s false S) ?_
 rintro u M (⟨hn, rfl⟩ | ⟨hi, rfl, rfl⟩)
 ·refine ⟨[], [], .tup [.val (.pointer none), .int .i64 4], rfl, trivial, (auto_), ?_⟩
  conv => whnf
  refine tI ?_
  conv => whnf
  exact ⟨.inr ⟨false, 4, rfl, fun _ => rfl, fun hh => (by cases hh), .inl ⟨hn, rfl, rfl⟩⟩, rfl⟩
 obtain ⟨g0, g1⟩ := SeP.inF (ex := false) S (iniX p q s) fun c hc => (iniX_mem S).1 hc
 have g2 : Lev p q s (inF p false (iniX p q s)).1 0 0 := by
  rw [g1]
  exact Lev.zero (iniX p q s) fun c => iniX_mem S
 have g4 := inF_len p false (iniX p q s)
 have g5 := (iniX_le S hi).1
 have g6 : (inF p false (iniX p q s)).1.length ≤ 4000 := by omega
 clear g1 g4 g5
 generalize inF p false (iniX p q s) = y0 at g0 g2 g6 ⊢
 refine ⟨[(7001, .old 7001), (7002, .old 7002), (7003, .old 7003)], srM p s false y0.1 y0.2, .tup [.ptr 7001 0, .int .i64 0], rfl, (auto_), (auto_), ?_⟩
 conv => whnf
 refine fI ?_
 conv => whnf
 refine WPc.loopF tt_ok mx_ok (fun z : SrS × Nat × Nat => SeP p q s false z.1 ∧ Lev p q s z.1.1 z.2.1 z.2.2 ∧ z.1.1.length ≤ 10000000) (fun z => [(11, .int .i64 (z.2.1 : Int))]) (fun z => (6, bxR0) :: srM p s false z.1.1 z.1.2) (fun z => 4001 - z.2.1) (y0, 0, 0) ⟨g0, g2, by dsimp only; omega⟩ ?_; conv => whnf
 refine ⟨Sub.by_ lmS _ 400 rfl (auto_) (auto_), ?_⟩
 rintro ⟨⟨l, f⟩, lo, n⟩ ⟨h1, h2, hbig⟩
 dsimp only at h1 h2 hbig ⊢
 have hle := h2.le
 conv => whnf
 refine cmpI ?_ ?_ <;> (intro g3; conv => whnf)
 case refine_2 =>
  have e : lo = l.length := by omega
  exact ⟨.inr ⟨false, 0, rfl, ShB.none_ hi h2 (h2.endS e)⟩, rfl⟩
 have hlo : lo < l.length := by omega
 have hrd := fun i (hi : i < l.length) => h1.og.rdy S hi
 refine WPc.loopF tt_ok mx_ok (fun i : Nat => lo ≤ i ∧ i ≤ l.length ∧ ∀ j, lo ≤ j → j < i → ¬ badB p q (oAt l j).c) (fun i => [(13, .int .i64 (i : Int))]) (fun _ => (6, bxR0) :: srM p s false l f) (fun i => l.length - i) lo ⟨Nat.le_refl _, hle, fun j a b => by omega⟩ ?_; conv => whnf
 refine ⟨Sub.by_ lmS _ 400 rfl (auto_) (auto_), ?_⟩
 rintro i ⟨a1, a2, a3⟩
 conv => whnf
 refine cmpI ?_ ?_ <;> (intro g4; conv => whnf)
 ·have hil : i < l.length := by omega
  have hr := hrd i hil
  refine dI ?_
  conv => whnf
  refine nI ?_
  rw [tN]
  conv => whnf
  refine dD (badF p q (l.getD i org0).c S.hp S.hq hr.wide hr.plain hok) (fun _ => ?_) (fun _ => ?_) <;> (conv => whnf)
  ·rename_i hb
   obtain ⟨r, xs, hc⟩ := Chain.ex h1.og i hil
   have hB := ShB.found S hi hq1 h2 a1 hil hb hc
   refine Spec.call [(7001, .old 7001), (7002, .old 7002), (7003, .old 7003)] (srM p s false l f) 400 rfl (auto_) (auto_) (runF p s false l f i r xs hc hil (by omega) (hB.yes rfl).2.2) ?_
   rintro u M' ⟨rfl, rfl⟩
   refine ⟨[(7001, .old 7001), (7002, .old 7002), (7003, .old 7003), (8001, .old 8001), (8002, .old 8002), (8003, .old 8003), (8004, .old 8004), (8005, .old 8005)], srM p s false l f ++ runM (oAt l r).c xs, runA (oAt l r).c xs.length, rfl, (auto_), (auto_), ?_⟩
   conv => whnf
   exact ⟨.inl ⟨⟨(oAt l r).c, xs⟩, true, 0, rfl, hB⟩, rfl⟩
  ·rename_i hb
   repeat' ((first|refine nI ?_|refine aI ?_|refine tI ?_|refine fI ?_|fail);conv => whnf)
   refine ⟨i + 1, Sub.by_ lmS _ 400 rfl (auto_) (auto_), ⟨by omega, by omega, fun j b1 b2 => ?_⟩, by dsimp only; omega⟩
   by_cases hj : j < i
   ·exact a3 j b1 hj
   ·obtain rfl : j = i := by omega
    exact hb
 have hbad : ∀ j, lo ≤ j → j < l.length → ¬ badB p q (oAt l j).c := fun j b1 b2 => a3 j b1 (by omega)
 clear a1 a2 a3 g4
 refine cmpI ?_ ?_ <;> (intro g5; conv => whnf)
 ·exact ⟨.inr ⟨false, 4, rfl, ShB.none_ hi h2 (h2.manyS S hlo hbad (by omega))⟩, rfl⟩
 have hfew : l.length ≤ 4000 := by omega
 refine WPc.loopF tt_ok mx_ok (fun z : SrS × Nat => SeP p q s false z.1 ∧ LevX p q s l lo z.1.1 z.2 ∧ lo ≤ z.2 ∧ z.2 ≤ l.length ∧ z.1.1.length ≤ 4000 + (z.2 - lo) * 2160) (fun z => [(11, .int .i64 (z.2 : Int)), (30, .top), (36, .top)]) (fun z => (6, bxR0) :: srM p s false z.1.1 z.1.2) (fun z => l.length - z.2) ((l, f), lo) ⟨h1, LevX.zero h2, Nat.le_refl _, hle, by dsimp only; omega⟩ ?_; conv => whnf
 refine ⟨Sub.by_ lmS _ 400 rfl (auto_) (auto_), ?_⟩
 rintro ⟨⟨l2, f2⟩, k⟩ ⟨b1, b2, b3, b4, b5⟩
 dsimp only at b1 b2 b3 b4 b5 ⊢
 conv => whnf
 refine cmpI ?_ ?_ <;> (intro g6; conv => whnf)
 ·have hkl : k < l.length := by omega
  have hk2 : k < l2.length := by
   obtain ⟨m2, hm2⟩ := b2.pre
   rw [hm2, List.length_append]
   omega
  have hr : Rdy p s (oAt l2 k).c := b1.og.rdy S hk2
  have hsame : oAt l2 k = oAt l k := b2.same hkl
  refine Spec.call [(7001, .old 7001), (7002, .old 7002), (7003, .old 7003)] (srM p s false l2 f2) 400 rfl (auto_) (auto_) (expandF p s false (l2, f2) k (oAt l2 k) rfl hk2 (by dsimp only; omega) hr (fun x he ha => ⟨(hr.next he ha).wide, (hr.next he ha).plain⟩)) ?_
  rintro u M' (⟨ha, rfl, rfl⟩ | ⟨ho, rfl, z, rfl⟩)
  ·obtain ⟨c1, c2⟩ := b1.exs S (stA p s (oAt l2 k).c p.rules.length) hk2 rfl fun x hx => ⟨stA_mem.1 hx, ha x hx⟩
   have c3 := b2.next b3 hkl (stA p s (oAt l k).c p.rules.length) (fun x => stA_mem) (by rw [← hsame]; exact ha)
   rw [← hsame, ← c2] at c3
   have c4 := exF_len p false (oAt l2 k).c k (stA p s (oAt l2 k).c p.rules.length) (l2, f2)
   have c5 := stA_le8 hr
   generalize exF p false (oAt l2 k).c k (stA p s (oAt l2 k).c p.rules.length) (l2, f2) = y2 at c1 c3 c4 ⊢
   dsimp only at c4
   refine ⟨lm4, srN p s false y2.1 y2.2, .int .i64 0, rfl, (auto_), rfl, ?_⟩
   conv => whnf
   refine fI ?_
   conv => whnf
   repeat' ((first|refine nI ?_|refine aI ?_|refine tI ?_|refine fI ?_|fail);conv => whnf)
   refine ⟨(y2, k + 1), ?_, ⟨c1, c3, by dsimp only; omega, by dsimp only; omega, by dsimp only; omega⟩, by dsimp only; omega⟩
   dsimp only
   exact Sub.by_ lmT _ 400 rfl (auto_) (auto_)
  ·refine ⟨lm4, srN p s false z.1 z.2, .int .i64 4, rfl, (auto_), rfl, ?_⟩
   conv => whnf
   refine tI ?_
   conv => whnf
   exact ⟨.inr ⟨false, 4, rfl, ShB.none_ hi h2 (h2.overS S hbad b3 hkl (by rw [← hsame]; exact ho))⟩, rfl⟩
 ·obtain rfl : k = l.length := by omega
  have hn := b2.done S h2 hlo hbad hfew
  refine ⟨((l2, f2), l.length, n + 1), ?_, ⟨b1, hn, by dsimp only; omega⟩, by dsimp only; omega⟩
  dsimp only
  exact Sub.by_ lmS _ 400 rfl (auto_) (auto_)
theorem ShortestF (p : Pro) (q : Prp) (s : Siz) (hp : ¬ bigP p) (hq : ¬ bigQ q) : PSpec Tryz.prog 14 [.agg (encP p), .agg (encQ q), .agg (encZ s)] (shU (ShA p q s)) := by
 refine PSpec.sh ?_
 refine PSpec.intro tt_ok mx_ok Tryz.func14 rfl (by decide) ?_; (conv => whnf)
 refine boxP rfl ?_
 conv => whnf
 refine boxP rfl ?_
 conv => whnf
 refine boxP rfl ?_
 conv => whnf
 (refine oP (checkAllF p q s hp hq) ?_; conv => whnf)
 refine cmpI ?_ ?_ <;> (intro h1; conv => whnf)
 ·exact ⟨.inr ⟨false, sizQ p q s, rfl, fun _ => ⟨rfl, rfl, rfl⟩, fun h => absurd h h1, fun h => absurd h h1⟩, rfl⟩
 have S : Sys p q s := ⟨hp, hq, by omega⟩
 refine cmpI ?_ ?_ <;> (intro h2; conv => whnf)
 ·exact ⟨.inr ⟨false, 7, rfl, fun h => absurd S.hz h, fun _ _ => ⟨rfl, rfl, rfl⟩, fun _ h => absurd h h2⟩, rfl⟩
 have hk : q.kind = 1 := by omega
 refine Spec.of_pure (n := 5) (shortestF p q s S hk) rfl ?_
 rintro _ ⟨r, is, e, rfl, hB⟩
 conv => whnf
 exact ⟨.inl ⟨r, is, e, rfl, fun h => absurd S.hz h, fun _ h => absurd hk h, fun _ _ => hB⟩, rfl⟩
end Go.Proofs.YtboelimimjojoaaGreatDoor
