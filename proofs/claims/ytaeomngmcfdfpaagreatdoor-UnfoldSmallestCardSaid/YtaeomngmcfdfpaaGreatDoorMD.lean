import Derived.Test.YtaeomngmcfdfpaaGreatDoorMC
import Derived.Test.YtaeomngmcfdfpaaGreatDoorFpNs
import Derived.Sort.EveryDepth
import Derived.Shelf.Slices.In.SortAlone
import Derived.Shelf.Slices.In.SortNone
import Derived.Test.YtaeomngmcfdfpaaGreatDoorM6
import Derived.Test.YtaeomngmcfdfpaaGreatDoorMN
set_option linter.unusedVariables false
set_option linter.unusedSimpArgs false
namespace Go.Proofs.YtaeomngmcfdfpaaGreatDoor
open Go.Sort
section
variable {S F : Store} {ρ : Env} {M : Mem} {w : World} {P : Program}
theorem RepM.grow (h : RepM S F ρ M w) (os : Array Obj) : RepM S F ρ M (Go.Sort.grow w os) := by
 have old : ∀ (T : Store), T.inW w → T.inW (Go.Sort.grow w os) := fun T hT b o e => by
  have := hT b o e
  rw [heap_grow_old w os (Array.getElem?_eq_some_iff.1 this).1]; exact this
 refine ⟨old _ h.sw, old _ h.fw, h.sf, h.dom, fun ℓ B hB => ?_, h.inj, h.gl⟩
 obtain ⟨b, hb, hr⟩ := h.blk _ _ hB
 exact ⟨b, hb, hr.keep (Store.le_refl _) (Env.le_refl _) fun hl => ⟨heap_grow_old w os (hr.lt hl), rfl⟩⟩
theorem Wle.grow {w w' : World} (h : Wle w w') (os : Array Obj) : Wle w (Go.Sort.grow w' os) :=
 ⟨h.os, h.output, h.tape, h.dr, by rw [size_grow]; have := h.size; omega, fun a ha => (frozen?_grow w' os a (Nat.lt_of_lt_of_le ha h.size)).trans (h.fz a ha)⟩
theorem Mem.set_self {M : Mem} {ℓ : Nat} {B : Blk} (h : M ℓ = some B) : M.set ℓ B = M := by
 funext x
 by_cases e : x = ℓ
 ·subst e; rw [Mem.set_eq, h]
 ·rw [Mem.set_ne _ _ e]
theorem Spec.sort {f : FuncId} (hP : Plain P f)
  (hS : ∀ (blk off cap : Nat) (zs : List Int) (w : World), Holds (Value.int .i64) w blk off zs.toArray → blk < w.heap.size → zs.length < 4611686018427387904 →
   Calls P f #[.slice (some ⟨blk, off, none⟩) zs.length cap] w fun e w' => e = .returned (.tuple #[]) ∧ ∃ n os, w' = Go.Sort.grow (putRow (Value.int .i64) (Go.Sort.ahead w n) blk off (zs.mergeSort fun x y => decide (x ≤ y)).toArray) os)
  (h0 : ∀ (p : Option Addr) (cap : Nat) (w : World), Calls P f #[.slice p 0 cap] w fun e w' => e = .returned (.tuple #[]) ∧ w' = w)
  {ℓ lo n : Nat} {t : TypeId} {l : List Int} (hl : M ℓ = some (.row t 0 encI l)) (hn : lo + n ≤ l.length) (hbig : l.length < 4611686018427387904) {K : AV → Mem → Prop}
  (hK : K (.tup []) (M.set ℓ (.row t 0 encI (srtAt l lo n)))) : Spec P f [.part ℓ lo n 1] M K := by
 rw [Spec_iff]
 refine ⟨hP, fun S F ρ vs w hM hv => ?_⟩
 obtain ⟨v, vs', rfl, hv1, hv2⟩ := hv.cons_inv
 have := hv2.nil_inv
 subst this
 obtain ⟨b, a, c, hb, hs, hlen, hpos, rfl⟩ := hv1.part_inv
 by_cases hz : n = 0
 ·subst hz
  refine (h0 a c w).mono ?_
  rintro e w' ⟨rfl, rfl⟩
  have e1 : srtAt l lo 0 = l := by
   have : srtI [] = [] := List.eq_nil_of_length_eq_zero (srtI_len [])
   simp [srtAt, this]
  rw [e1, Mem.set_self hl] at hK
  exact ⟨_, _, M, S, ρ, rfl, hK, Store.le_refl _, Env.le_refl _, hM, RV.tup_mk (vs := []) (RVs.nil _ _), Wle.refl _⟩
 obtain ⟨hnil, rfl⟩ := hpos (by omega)
 obtain ⟨b', hb', hblen, hszs, hcase⟩ := hM.blk _ _ hl
 rw [hb] at hb'; cases hb'
 rcases hcase with ⟨h, _⟩ | ⟨_, hcap, cs, hheap, hcs, hcell, hSb, hFb⟩
 ·rw [hnil] at h; cases h
 rw [hs] at hcell hcs
 have hzlen : ((l.drop lo).take n).length = n := by rw [List.length_take, List.length_drop]; omega
 have hat : ∀ i x, l[i]? = some x → cs[i]? = some (Value.int .i64 x) := fun i x hx => by
  obtain ⟨v, h1, h2⟩ := hcell i x 0 (.int .i64 x) hx rfl
  cases h2
  simpa using h1
 have hat2 : ∀ j, j < n → cs[lo + j]? = some (Value.int .i64 (((l.drop lo).take n).toArray[j]!)) := fun j hj => by
  apply hat
  have e1 : ((l.drop lo).take n)[j]? = l[lo + j]? := by rw [List.getElem?_take, if_pos hj, List.getElem?_drop]
  have hj' : j < ((l.drop lo).take n).length := by omega
  rw [← e1, getElem!_pos _ j (by simpa using hj')]
  simp only [List.getElem_toArray]
  exact gL hj'
 have hlt := lt_of_heap hheap
 have hH : Holds (Value.int .i64) w b.blk lo ((l.drop lo).take n).toArray := fun j hj => by
  have hj : j < n := by simpa [hzlen] using hj
  refine ⟨?_, ?_⟩
  ·simp only [World.cell?, hheap]
   exact hat2 j hj
  ·simp [World.frozen?, hheap]
 have hcall := hS b.blk lo c ((l.drop lo).take n) w hH hlt (by omega)
 rw [hzlen] at hcall
 rw [hs, Nat.mul_one]
 refine hcall.mono ?_
 rintro e w' ⟨rfl, q, os, rfl⟩
 let ys := srtI ((l.drop lo).take n)
 have hyl : ys.length = n := by rw [srtI_len, hzlen]
 let w1 := putRow (Value.int .i64) (Go.Sort.ahead w q) b.blk lo ys.toArray
 have hh1 : ∀ k, k ≠ b.blk → w1.heap[k]? = w.heap[k]? := fun k hk => by
  show (w.heap.modify b.blk _)[k]? = _
  rw [Array.getElem?_modify, if_neg (fun e => hk e.symm)]
 have hh2 : w1.heap[b.blk]? = some (.cells (putCells (Value.int .i64) lo ys.toArray cs) t (0, 0)) := by
  show (w.heap.modify b.blk _)[b.blk]? = _
  rw [Array.getElem?_modify, if_pos rfl, hheap]; rfl
 have hM1 : RepM S F ρ (M.set ℓ (.row t 0 encI (srtAt l lo n))) w1 := by
  refine hM.upd hl hb (fun k hk => hh1 k (hk.elim id fun h => absurd hnil h)) (fun _ => hnil) ?_
  refine ⟨by rw [srtAt_len hn]; exact hblen, fun x _ => ⟨by rw [hs]; rfl, rfl⟩, .inr ⟨hnil, by rw [srtAt_len hn]; exact hcap, _, hh2, by rw [hs, ← hcs]; simp [putCells], fun i x j u hx hu => ?_, hSb, hFb⟩⟩
  have hj : j = 0 := by
   cases j with
   |zero => rfl
   |succ j => simp [encI] at hu
  subst hj
  cases hu
  rw [hs, Nat.mul_one, Nat.add_zero]
  simp only [putCells, Array.getElem?_mapIdx]
  have hil : i < l.length := by
   have := (List.getElem?_eq_some_iff.1 hx).1
   rwa [srtAt_len hn] at this
  have hc1 := hat i l[i] (gL hil)
  rw [hc1, Option.map_some]
  refine ⟨_, rfl, ?_⟩
  have htl : (l.take lo).length = lo := by rw [List.length_take]; omega
  unfold srtAt at hx
  by_cases c1 : i < lo
  ·rw [List.getElem?_append_left (by omega), List.getElem?_take, if_pos c1, gL hil] at hx
   cases hx
   rw [if_neg (by omega)]
   exact .int _ _
  ·rw [List.getElem?_append_right (by omega), htl] at hx
   by_cases c2 : i < lo + n
   ·have hi2 : i - lo < ys.length := by omega
    rw [List.getElem?_append_left hi2, gL hi2] at hx
    cases hx
    rw [if_pos ⟨by omega, by simp; omega⟩, getElem!_pos _ _ (by simpa using hi2)]
    simp only [List.getElem_toArray]
    exact .int _ _
   ·rw [List.getElem?_append_right (by show ys.length ≤ _; omega), List.getElem?_drop] at hx
    have e2 : lo + n + (i - lo - (srtI ((l.drop lo).take n)).length) = i := by
     have : (srtI ((l.drop lo).take n)).length = n := hyl
     omega
    rw [e2, gL hil] at hx
    cases hx
    rw [if_neg (by simp; omega)]
    exact .int _ _
 have hW1 : Wle w w1 := ⟨rfl, rfl, rfl, Nat.le_add_right _ _, by show w.heap.size ≤ (w.heap.modify _ _).size; simp, fun x hx => by
  show (putRow (Value.int .i64) (Go.Sort.ahead w q) b.blk lo ys.toArray).frozen? x = _
  rw [frozen?_putRow]; rfl⟩
 exact ⟨_, _, _, S, ρ, rfl, hK, Store.le_refl _, Env.le_refl _, hM1.grow os, RV.tup_mk (vs := []) (RVs.nil _ _), hW1.grow os⟩
end
theorem sortP : Plain Tryz.prog 165 := ⟨_, Tryz.func165, rfl, rfl⟩
theorem sortA (blk off cap : Nat) (zs : List Int) (w : World) (hH : Holds (Value.int .i64) w blk off zs.toArray) (hb : blk < w.heap.size) (hs : zs.length < 4611686018427387904) :
  Calls Tryz.prog 165 #[.slice (some ⟨blk, off, none⟩) zs.length cap] w fun e w' => e = .returned (.tuple #[]) ∧ ∃ n os, w' = Go.Sort.grow (putRow (Value.int .i64) (Go.Sort.ahead w n) blk off (zs.mergeSort fun x y => decide (x ≤ y)).toArray) os :=
 calls_of_every_depth fun D => AnyS.slices_Sort_int_alone Tryz.laysSort D blk off cap zs w hH hb hs
theorem sort0 (p : Option Addr) (cap : Nat) (w : World) : Calls Tryz.prog 165 #[.slice p 0 cap] w fun e w' => e = .returned (.tuple #[]) ∧ w' = w :=
 calls_of_every_depth fun D => AnyS.slices_Sort_int_none_alone Tryz.laysSort D p cap w
end Go.Proofs.YtaeomngmcfdfpaaGreatDoor
namespace Go.Proofs.YtaeomngmcfdfpaaGreatDoor
set_option maxRecDepth 100000
theorem srtAt_two {l : List Int} {k : Nat} (h : k ≤ l.length) : srtI (l.take k) ++ srtI (l.drop k) = srtAt (srtAt l 0 k) k (l.length - k) := by
 have hn : (srtI (l.take k)).length = k := by rw [srtI_len, List.length_take]; omega
 have e1 : srtAt l 0 k = srtI (l.take k) ++ l.drop k := by simp [srtAt]
 have hd : (srtI (l.take k) ++ l.drop k).drop k = l.drop k := by
  rw [List.drop_append, hn, Nat.sub_self, List.drop_of_length_le (by omega)]; rfl
 have ht : (srtI (l.take k) ++ l.drop k).take k = srtI (l.take k) := by
  rw [List.take_append_of_le_length (by omega)]; exact List.take_of_length_le (by omega)
 have hx : (l.drop k).take (l.length - k) = l.drop k := List.take_of_length_le (by rw [List.length_drop]; omega)
 have hy : (srtI (l.take k) ++ l.drop k).drop (k + (l.length - k)) = [] := List.drop_of_length_le (by rw [List.length_append, hn, List.length_drop]; omega)
 rw [e1, srtAt, ht, hd, hx, hy, List.append_nil]
def canC (p : Pro) (c : Cfg) : Cfg := if p.topology = 1 then ⟨c.shape, srtI (c.states.take c.correct.toNat) ++ srtI (c.states.drop c.correct.toNat), c.correct, c.sent, c.faulty, c.value⟩ else c
theorem canC_no {p : Pro} (c : Cfg) (h : p.topology ≠ 1) : canC p c = c := if_neg h
theorem canC_yes {p : Pro} (c : Cfg) (h : p.topology = 1) : canC p c = ⟨c.shape, srtI (c.states.take c.correct.toNat) ++ srtI (c.states.drop c.correct.toNat), c.correct, c.sent, c.faulty, c.value⟩ := if_pos h
theorem canC_correct (p : Pro) (c : Cfg) : (canC p c).correct = c.correct := by unfold canC; split <;> rfl
theorem canC_shape (p : Pro) (c : Cfg) : (canC p c).shape = c.shape := by unfold canC; split <;> rfl
theorem canC_sent (p : Pro) (c : Cfg) : (canC p c).sent = c.sent := by unfold canC; split <;> rfl
theorem canC_faulty (p : Pro) (c : Cfg) : (canC p c).faulty = c.faulty := by unfold canC; split <;> rfl
theorem canC_value (p : Pro) (c : Cfg) : (canC p c).value = c.value := by unfold canC; split <;> rfl
theorem canC_perm (p : Pro) (c : Cfg) : (canC p c).states.Perm c.states := by
 unfold canC
 split
 ·have := (srtI_perm (c.states.take c.correct.toNat)).append (srtI_perm (c.states.drop c.correct.toNat))
  rwa [List.take_append_drop] at this
 ·exact List.Perm.refl _
theorem canC_len (p : Pro) (c : Cfg) : (canC p c).states.length = c.states.length := (canC_perm p c).length_eq
theorem canC_wide (p : Pro) (c : Cfg) : wideB (canC p c) = wideB c := by
 unfold wideB; rw [canC_shape, canC_sent, canC_faulty, canC_len]
theorem canC_take {p : Pro} {c : Cfg} (h : p.topology = 1) (h1 : c.correct ≤ c.states.length) : (canC p c).states.take c.correct.toNat = srtI (c.states.take c.correct.toNat) := by
 rw [canC_yes c h]
 rw [List.take_append_of_le_length (by rw [srtI_len, List.length_take]; omega), List.take_of_length_le (by rw [srtI_len, List.length_take]; omega)]
theorem canC_takeP (p : Pro) {c : Cfg} (h1 : c.correct ≤ c.states.length) : ((canC p c).states.take c.correct.toNat).Perm (c.states.take c.correct.toNat) := by
 by_cases h : p.topology = 1
 ·rw [canC_take h h1]; exact srtI_perm _
 ·rw [canC_no c h]
theorem inR_mem {l : List Int} {n : Int} : inR l n ↔ ∀ x ∈ l, 0 ≤ x ∧ x < n := by
 constructor
 ·intro h x hx
  obtain ⟨i, hi, rfl⟩ := List.getElem_of_mem hx
  have := h i hi
  rw [gD, gL hi] at this
  exact this
 ·intro h j hj
  rw [gD, gL hj]
  exact h _ (List.getElem_mem hj)
theorem canC_hit (p : Pro) (S : List Int) {c : Cfg} (h1 : c.correct ≤ c.states.length) : hitN S ((canC p c).states.take (canC p c).correct.toNat) = hitN S (c.states.take c.correct.toNat) := by
 rw [canC_correct]; exact (canC_takeP p h1).countP_eq _
theorem adjB_clique {p : Pro} (h : p.topology = 1) (c : Cfg) (l : List Int) : ¬ adjB p c l := by
 rintro ⟨i, _, _, ⟨h0, _⟩ | ⟨h4, _⟩⟩
 ·unfold nbS at h0
  rw [if_neg (by omega), if_neg (by omega), if_neg (by omega)] at h0
  omega
 ·omega
theorem canC_bad (p : Pro) (q : Prp) {c : Cfg} (h1 : c.correct ≤ c.states.length) : badB p q (canC p c) ↔ badB p q c := by
 by_cases h : p.topology = 1
 ·unfold badB cokB
  have e : ∀ S, hitN S ((canC p c).states.take (canC p c).correct.toNat) = hitN S (c.states.take c.correct.toNat) := fun S => canC_hit p S h1
  simp only [e]
  constructor
  ·rintro ⟨a, b | b⟩
   ·exact ⟨a, .inl b⟩
   ·exact absurd b (adjB_clique h _ _)
  ·rintro ⟨a, b | b⟩
   ·exact ⟨a, .inl b⟩
   ·exact absurd b (adjB_clique h _ _)
 ·rw [canC_no c h]
set_option maxHeartbeats 16000000
theorem sortedL (l : List Int) (hl : l.length ≤ 1000000) : Spec Tryz.prog 87 [.sl 0 encI l] (Mem.ofL []) (fun u M => u = .row 1005 l.length 1 ∧ M 1005 = some (rowN (srtI l))) := by
 refine Spec.intro tt_ok mx_ok [] Tryz.func87 rfl (by decide) ?_
 conv => whnf
 refine Spec.news 400 [(1005, .old 5)] [(1005, rowN l)] (.row 1005 l.length 1) (copyIntsL l hl) (auto_) rfl out1 ?_
 conv => whnf
 refine WPc.loopF tt_ok mx_ok (fun x : Nat × List Int => (1 ≤ x.1 ∧ x.1 ≤ l.length + 1) ∧ x.2.Perm l ∧ ∀ a b, a < b → b < x.1 → b < l.length → x.2.getD a 0 ≤ x.2.getD b 0) (fun x => [(4, .int .i64 (x.1 : Int))]) (fun x => [(1005, rowN x.2)]) (fun x => l.length + 1 - x.1) (1, l) ⟨⟨by dsimp only; omega, by dsimp only; omega⟩, List.Perm.refl _, fun a b h1 h2 => by dsimp only at h2; omega⟩ ?_; conv => whnf
 refine ⟨sI, ?_⟩
 rintro ⟨i, m⟩ ⟨⟨hi1, hi2⟩, hm, hs⟩
 dsimp only at hi1 hi2 hm hs ⊢
 have hml := hm.length_eq
 conv => whnf
 refine cmpI ?_ ?_ <;> (intro g1; conv => whnf)
 case refine_2 =>
  have e : m = srtI l := srtI_of hm (List.pairwise_iff_getElem.2 fun a b ha hb hab => by
   have := hs a b hab (by omega) (by omega)
   rw [gD, gD, gL ha, gL hb] at this
   exact this)
  subst e
  exact ⟨rfl, rfl⟩
 refine WPc.loopF tt_ok mx_ok (fun y : Nat × List Int => y.1 ≤ i ∧ y.2.Perm l ∧ InsInv y.2 i y.1) (fun y => [(5, .int .i64 (y.1 : Int))]) (fun y => [(1005, rowN y.2)]) (fun y => y.1) (i, m) ⟨Nat.le_refl _, hm, InsInv.start (fun a b h1 h2 => hs a b h1 h2 (by omega))⟩ ?_; conv => whnf
 refine ⟨sI, ?_⟩
 rintro ⟨k, y⟩ ⟨hk, hy, hI⟩
 dsimp only at hk hy hI ⊢
 have hyl := hy.length_eq
 have stop : (k = 0 ∨ y.getD (k - 1) 0 ≤ y.getD k 0) → ∀ a b, a < b → b < i + 1 → b < l.length → y.getD a 0 ≤ y.getD b 0 := fun h a b h1 h2 _ => hI.stop hk h a b h1 h2
 conv => whnf
 refine dI ?_
 conv => whnf
 refine cmpI ?_ ?_ <;> (intro g2; conv => whnf)
 case refine_2 =>
  repeat' ((first|refine nI ?_|refine aI ?_|refine tI ?_|refine fI ?_|fail);conv => whnf)
  exact ⟨(i + 1, y), sI, ⟨⟨by dsimp only; omega, by dsimp only; omega⟩, hy, stop (.inl (by omega))⟩, by dsimp only; omega⟩
 refine aI ?_
 conv => whnf
 refine nI ?_
 conv => whnf
 refine nI ?_
 conv => whnf
 rw [tN, show ((k : Int) - 1).toNat = k - 1 by omega]
 refine cmpI ?_ ?_ <;> (intro g3; conv => whnf)
 case refine_2 =>
  repeat' ((first|refine nI ?_|refine aI ?_|refine tI ?_|refine fI ?_|fail);conv => whnf)
  exact ⟨(i + 1, y), sI, ⟨⟨by dsimp only; omega, by dsimp only; omega⟩, hy, stop (.inr (by omega))⟩, by dsimp only; omega⟩
 refine dI ?_
 conv => whnf
 refine aI ?_
 conv => whnf
 refine nI ?_
 conv => whnf
 refine aI ?_
 conv => whnf
 refine nI ?_
 conv => whnf
 refine nI ?_
 conv => whnf
 refine rowSetI _ rfl ?_
 conv => whnf
 refine nI ?_
 conv => whnf
 refine rowSetI _ rfl ?_
 conv => whnf
 refine aI ?_
 conv => whnf
 have hkk : ((k : Int) - 1).toNat = k - 1 := by omega
 refine ⟨(k - 1, insStep y k), ?_, ⟨by dsimp only; omega, (insStep_perm (by omega) (by omega)).trans hy, hI.step (by omega) hk (by omega) g3⟩, by dsimp only; omega⟩
 rw [hkk, tN]
 have hk1 : ((k - 1 : Nat) : Int) = (k : Int) - 1 := by omega
 have hin : (y.set (k - 1) (y.getD k 0)).set k (y.getD (k - 1) 0) = insStep y k := rfl
 rw [hin]
 dsimp only
 rw [← hk1]
 exact sI
theorem outS {l : List Int} {a ℓ : Nat} : ∀ u M', (u = .row a l.length 1 ∧ M' a = some (rowN (srtI l))) → memR [(ℓ, .old a)] 400 M' [(ℓ, rowN (srtI l))] ∧ avR [(ℓ, .old a)] 400 u (.row ℓ l.length 1) := by
 rintro _ M' ⟨rfl, h⟩
 constructor
 ·simp [memR, lmFind, blkR, h, rowN]
 ·simp [avR, lmFind]
theorem canonicalF (p : Pro) (c : Cfg) (hw : wideB c = false) (hpl : plB p c) : PSpec Tryz.prog 138 [.agg (encP p), .agg (encC c)] (fun u => u = .agg (encC (canC p c))) := by
 have hc := wide_le hw
 obtain ⟨_, h0, h1⟩ := hpl
 by_cases ht : p.topology = 1
 ·have hst : srtI (c.states.take c.correct.toNat) ++ srtI (c.states.drop c.correct.toNat) = srtAt (srtAt c.states (Int.toNat 0) (c.correct - 0).toNat) c.correct.toNat ((c.states.length : Int) - c.correct).toNat := by
   rw [Int.sub_zero, show Int.toNat 0 = 0 from rfl, show ((c.states.length : Int) - c.correct).toNat = c.states.length - c.correct.toNat by omega]
   exact srtAt_two (by omega)
  have e : canC p c = ⟨c.shape, srtAt (srtAt c.states (Int.toNat 0) (c.correct - 0).toNat) c.correct.toNat ((c.states.length : Int) - c.correct).toNat, c.correct, c.sent, c.faulty, c.value⟩ := by rw [canC_yes c ht, hst]
  rw [e]
  clear e hst
  refine PSpec.intro tt_ok mx_ok Tryz.func138 rfl (by decide) ?_; (conv => whnf)
  refine boxP rfl ?_
  conv => whnf
  refine boxP rfl ?_
  conv => whnf
  refine Spec.news 400 (lmC 5 9 13 17) (memC c) (cfgL c) (cloneL c hw) (auto_) rfl outC ?_
  conv => whnf
  refine cmpT ht ?_
  conv => whnf
  refine sliceP ?_
  refine nI ?_
  conv => whnf
  refine Spec.sort sortP sortA sort0 rfl (by omega) (by omega) ?_
  conv => whnf
  refine nI ?_
  conv => whnf
  refine Spec.sort sortP sortA sort0 rfl (by rw [srtAt_len (by omega)]; omega) (by rw [srtAt_len (by omega)]; omega) ?_
  conv => whnf
  exact ⟨rfl, rfl⟩
 ·rw [canC_no c ht]
  refine PSpec.intro tt_ok mx_ok Tryz.func138 rfl (by decide) ?_; (conv => whnf)
  refine boxP rfl ?_
  conv => whnf
  refine boxP rfl ?_
  conv => whnf
  refine Spec.news 400 (lmC 5 9 13 17) (memC c) (cfgL c) (cloneL c hw) (auto_) rfl outC ?_
  conv => whnf
  refine cmpF ht ?_
  conv => whnf
  exact ⟨rfl, rfl⟩
theorem canonicalR (p : Pro) (c : Cfg) (hw : wideB c = false) (hpl : plB p c) : PSpec Tryz.prog 45 [.agg (encP p), .agg (encC c)] (fun u => u = .agg (encC (canC p c))) := by
 have hc := wide_le hw
 obtain ⟨_, h0, h1⟩ := hpl
 by_cases ht : p.topology = 1
 ·rw [canC_yes c ht]
  have hl1 : (c.states.take c.correct.toNat).length ≤ 100 := by rw [List.length_take]; omega
  have hl2 : (c.states.drop c.correct.toNat).length ≤ 100 := by rw [List.length_drop]; omega
  have hl3 := srtI_len (c.states.take c.correct.toNat)
  have hl4 := srtI_len (c.states.drop c.correct.toNat)
  refine PSpec.intro tt_ok mx_ok Tryz.func45 rfl (by decide) ?_; (conv => whnf)
  refine boxP rfl ?_
  conv => whnf
  refine boxP rfl ?_
  conv => whnf
  refine Spec.news 400 (lmC 1001 1002 1003 1004) (memC c) (cfgL c) (copyL c hw) (auto_) rfl outC ?_
  conv => whnf
  refine cmpT ht ?_
  conv => whnf
  refine drawF (by decide +kernel) ?_
  conv => whnf
  refine nI ?_
  conv => whnf
  refine callLN 400 [(1011, .old 1005)] [(1011, rowN (srtI (c.states.take c.correct.toNat)))] (.row 1011 (c.states.take c.correct.toNat).length 1) (sortedL _ (by omega)) (auto_) rfl rfl outS ?_
  conv => whnf
  refine nI ?_
  conv => whnf
  refine callLN 400 [(1012, .old 1005)] [(1012, rowN (srtI (c.states.drop c.correct.toNat)))] (.row 1012 (c.states.drop c.correct.toNat).length 1) (sortedL _ (by omega)) (auto_) rfl rfl outS ?_
  conv => whnf
  refine appI _ rfl (by dsimp only; omega) ?_
  conv => whnf
  exact ⟨rfl, rfl⟩
 ·rw [canC_no c ht]
  refine PSpec.intro tt_ok mx_ok Tryz.func45 rfl (by decide) ?_; (conv => whnf)
  refine boxP rfl ?_
  conv => whnf
  refine boxP rfl ?_
  conv => whnf
  refine Spec.news 400 (lmC 1001 1002 1003 1004) (memC c) (cfgL c) (copyL c hw) (auto_) rfl outC ?_
  conv => whnf
  refine cmpF ht ?_
  conv => whnf
  exact ⟨rfl, rfl⟩
end Go.Proofs.YtaeomngmcfdfpaaGreatDoor
