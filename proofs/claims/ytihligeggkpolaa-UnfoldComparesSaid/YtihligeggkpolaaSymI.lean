/-
  Operations that make or write memory: the model's run leaves what the abstract operation says.
-/
import Derived.Test.YtihligeggkpolaaSymH
namespace Go.Proofs.Ytihligeggkpolaa

/-- What an operation leaves. -/
def Leaves (P : Program) (S F : Store) (ρ : Env) (w : World) (m : Sem Value) (K : AV → Mem → Prop) : Prop :=
  ∃ v u M' S' ρ' w', m.run P w = .ok v w' ∧ K u M' ∧ S.le S' ∧ Env.le ρ ρ' ∧ RepM S' F ρ' M' w' ∧ RV S' ρ' v u ∧ Wle w w'
def LeavesU (P : Program) (S F : Store) (ρ : Env) (w : World) (m : Sem Unit) (K : Mem → Prop) : Prop :=
  ∃ M' S' ρ' w', m.run P w = .ok () w' ∧ K M' ∧ S.le S' ∧ Env.le ρ ρ' ∧ RepM S' F ρ' M' w' ∧ Wle w w'

section
variable {S F : Store} {ρ : Env} {M : Mem} {w : World} {P : Program} {tt : TT}

theorem allocK_ok (hT : TOkB P tt = true) {t : TypeId} {dst : Option Tmp} {K : AV → Mem → Prop} (h : allocK tt t dst M K) (hM : RepM S F ρ M w) : Leaves P S F ρ w (Instr.alloc t true (.tuple #[])) K := by
  unfold allocK at h
  split at h
  · rename_i d i ht
    split at h
    · rename_i hd
      rw [forceL_eq] at h
      obtain ⟨x, z, hx, _, _, hz, hzc, _⟩ := TOk.info hT ht
      let b : Lab := ⟨w.heap.size, 0, 0, 0, false⟩
      refine ⟨_, _, _, S, Env.set ρ d b, w.alloc (.cells z.cells t), ?_, h, Store.le_refl _, Env.set_le _ (hM.fresh hd), hM.alloc hd _ t b _ (fun _ => rfl) ?_, .ptr d 0 b (Env.set_eq _ _ _), Wle.alloc_cells _ _ _⟩
      · simp only [Instr.alloc, zeroValue, typeInfo, Sem.run_bind, run_program, Result.andThen_ok, hx, Sem.run_pure, hz, newVar, newRow, run_newObj]
        rfl
      · exact ⟨z.cells, heap_push_new _ _, by rw [hzc]; exact constA_list _, Store.inW_size hM.sw, Store.inW_size hM.fw⟩
    · exact h.elim
  · exact h.elim

theorem boxK_ok {t : TypeId} {dst : Option Tmp} {K : AV → Mem → Prop} {us : List AV} {v : Value} (h : boxK t us dst M K) (hM : RepM S F ρ M w) (hv : RVs S ρ [v] us) : Leaves P S F ρ w (Instr.box t v) K := by
  unfold boxK at h
  split at h
  · rename_i d x
    split at h
    · rename_i cs hd hcs
      obtain ⟨y, ys, e, hy, _⟩ := hv.cons_inv
      injection e with e _
      subst e
      obtain ⟨hc, _⟩ := cellsA_ok hcs hy
      have hrun : (Instr.box t v).run P w = .ok (.pointer (some ⟨w.heap.size, 0, none⟩)) (w.alloc (.cells v.cells t)) := by
        simp only [Instr.box, newVar, newRow, Sem.run_bind, run_newObj, Result.andThen_ok, Sem.run_pure]
        rfl
      rcases h.out with ⟨hp, h⟩ | h
      · obtain ⟨hpc, _⟩ := allPers_ok hp hc
        have hfresh : ∀ {S : Store}, S.inW w → S w.heap.size = none := fun h => Store.inW_size h
        let S' : Store := fun k => if k = w.heap.size then some (.cells v.cells t (0, 0)) else S k
        have hS'k : ∀ k, k ≠ w.heap.size → S' k = S k := fun k hk => by show (if _ then _ else _) = _; rw [if_neg hk]
        have hS'b : S' w.heap.size = some (.cells v.cells t (0, 0)) := by show (if _ then _ else _) = _; rw [if_pos rfl]
        have hle : Store.le S S' := fun k o hk => by
          by_cases e : k = w.heap.size
          · subst e; rw [hfresh hM.sw] at hk; cases hk
          · rw [hS'k _ e]; exact hk
        have hpd : RP S' (.pointer (some ⟨w.heap.size, 0, none⟩)) (.pd cs) := by
          have hl := hpc.1
          simp only [Array.length_toList] at hl
          refine .pd cs _ (fun j => v.cells.getD j undef) (fun j hj => ?_) (fun j u hu => ?_)
          · rw [Addr.add_mk]
            have : j < v.cells.size := by omega
            simp [Store.cell, hS'b, this]
          · obtain ⟨y, hy, hr⟩ := hpc.2 j u hu
            have hy' : v.cells[j]? = some y := by simpa using hy
            have : v.cells.getD j undef = y := by simp [hy']
            rw [this]; exact hr.mono hle
        refine ⟨_, _, M, S', ρ, _, hrun, h, hle, Env.le_refl _, ⟨fun k o hk => ?_, Store.inW_alloc hM.fw _, fun k => ?_, hM.dom, fun ℓ B hB => ?_, hM.inj⟩, .p hpd, Wle.alloc_cells _ _ _⟩
        · by_cases e : k = w.heap.size
          · subst e; rw [hS'b] at hk; cases hk; exact heap_push_new _ _
          · rw [hS'k _ e] at hk; exact Store.inW_alloc hM.sw _ k o hk
        · by_cases e : k = w.heap.size
          · subst e; exact .inr (hfresh hM.fw)
          · rw [hS'k _ e]; exact hM.sf k
        · obtain ⟨b, hb, hr⟩ := hM.blk _ _ hB
          refine ⟨b, hb, hr.keep hle (Env.le_refl _) fun hl => ?_⟩
          have := hr.lt hl
          exact ⟨heap_push _ _ _ this, hS'k _ (by omega)⟩
      · let b : Lab := ⟨w.heap.size, 0, 0, 0, false⟩
        have hle := Env.set_le b (hM.fresh hd)
        refine ⟨_, _, _, S, Env.set ρ d b, _, hrun, h, Store.le_refl _, hle, hM.alloc hd _ t b _ (fun _ => rfl) ?_, .ptr d 0 b (Env.set_eq _ _ _), Wle.alloc_cells _ _ _⟩
        exact ⟨v.cells, heap_push_new _ _, hc.mono (Store.le_refl _) hle, Store.inW_size hM.sw, Store.inW_size hM.fw⟩
    · exact h.elim
  · exact h.elim

theorem splice_length {α : Type _} {l cs : List α} {o : Nat} (h : o + cs.length ≤ l.length) : (l.take o ++ (cs ++ l.drop (o + cs.length))).length = l.length := by
  simp; omega

theorem allOne_iff : ∀ {us : List AV}, allOne us = true ↔ ∀ u ∈ us, oneA u = true
  | [] => by simp [allOne]
  | u :: us => by
    simp only [allOne, List.mem_cons, forall_eq_or_imp]
    cases h : oneA u with
    | true => simp [allOne_iff (us := us)]
    | false => simp
theorem allOne_splice {us cs : List AV} (h : allOne us = true) (h' : allOne cs = true) (o : Nat) : allOne (splice us o cs) = true := by
  rw [allOne_iff] at *
  unfold splice
  intro u hu
  rcases List.mem_append.1 hu with hu | hu
  · exact h u (List.mem_of_mem_take hu)
  · rcases List.mem_append.1 hu with hu | hu
    · exact h' u hu
    · exact h u (List.mem_of_mem_drop hu)

theorem storeK_ok (hT : TOkB P tt = true) {t : TypeId} {K : Mem → Prop} {us : List AV} {va vx : Value} (h : storeK tt t us M K) (hM : RepM S F ρ M w) (hv : RVs S ρ [va, vx] us) : LeavesU P S F ρ w (Instr.storeAt t va vx) K := by
  unfold storeK at h
  split at h
  · rename_i a x
    obtain ⟨y, ys, e, ha, hv⟩ := hv.cons_inv
    injection e with e e'
    subst e; subst e'
    obtain ⟨y, ys, e, hx, _⟩ := hv.cons_inv
    injection e with e _
    subst e
    split at h
    · rename_i cs i hcs ht
      obtain ⟨hc, _⟩ := cellsA_ok hcs hx
      have hlen := hc.1
      simp only [Array.length_toList] at hlen
      split at h
      · rename_i hsz
        have hsz := Nat.eq_of_beq_eq_true hsz
        have hsize := TOk.size hT ht w
        split at h
        · rename_i ℓ o
          obtain ⟨b, hb, rfl⟩ := ha.ptr_inv
          split at h
          · rename_i bt cells hl
            obtain ⟨b', hb', vs, hheap, hvs, hSb, hFb⟩ := hM.blk _ _ hl
            rw [hb] at hb'; cases hb'
            split at h
            · rename_i hone hle
              have hle := Nat.le_of_ble_eq_true hle
              rw [forceL_eq] at h
              have hvl := hvs.1
              simp only [Array.length_toList] at hvl
              have hst := run_storeCells_at P b.blk o bt vx.cells.toList 0 vs w hheap (by simp; omega) (allOne_ok hone hc)
              refine ⟨_, S, ρ, _, ?_, h, Store.le_refl _, Env.le_refl _, hM.upd hl hb (w' := w.setRow b.blk (vs.toList.take (o + 0) ++ vx.cells.toList ++ vs.toList.drop (o + 0 + vx.cells.toList.length)).toArray) (fun k hk => ?_) (fun hh => hh) ?_, Wle.setRow hheap⟩
              · simp only [Instr.storeAt, Instr.sureAddr, Sem.run_bind, Sem.run_pure, Result.andThen_ok, storeVar, hsize, hlen, hsz]
                simpa using hst
              · rcases hk with hk | hk
                · exact setRow_other _ _ _ _ hk
                · exact absurd trivial hk
              · refine ⟨_, setRow_heap _ _ _ _ _ _ hheap, ?_, hSb, hFb⟩
                have := hvs.splice_ hc o
                simpa [spliceV] using this
            · exact h.elim
          · exact h.elim
        · rename_i ℓ j o
          obtain ⟨b, hb, hj, rfl⟩ := ha.rel_inv
          obtain ⟨cs', M', S', h, hS', hc', hM', _⟩ := leakK_ok _ _ _ _ _ h hc hM
          split at h
          · rename_i rt α d enc l hl
            obtain ⟨b', hb', hlen', hszs, hcase⟩ := hM'.blk _ _ hl
            rw [hb] at hb'; cases hb'
            rcases hcase with ⟨_, rfl, _⟩ | ⟨hnil, hcap, vs, hheap, hvsz, hcell, hSb, hFb⟩
            · simp at hlen'; omega
            split at h
            · rename_i hpers hle
              have hle := Nat.le_of_ble_eq_true hle
              obtain ⟨hpc, hone⟩ := allPers_ok hpers hc'
              rw [rowSetK_iff] at h
              obtain ⟨a', ha', h⟩ := h
              have hg := getD_of_lt (d := d) (l := l) (n := j) (by omega)
              have hel := (hszs _ (List.mem_of_getElem? hg)).1
              have hcl := hc'.1
              have hrow : (j + 1) * b.sz ≤ b.cap * b.sz := Nat.mul_le_mul_right _ (by omega)
              rw [Nat.add_mul] at hrow
              simp only [Array.length_toList] at hcl
              have hst := run_storeCells_at P b.blk (j * b.sz + o) rt vx.cells.toList 0 vs w hheap (by simp; omega) (allOne_ok hone hc')
              refine ⟨_, S', ρ, _, ?_, h, hS', Env.le_refl _, hM'.upd hl hb (w' := w.setRow b.blk (vs.toList.take (j * b.sz + o + 0) ++ vx.cells.toList ++ vs.toList.drop (j * b.sz + o + 0 + vx.cells.toList.length)).toArray) (fun k hk => ?_) (fun hh => hh) ?_, Wle.setRow hheap⟩
              · simp only [Instr.storeAt, Instr.sureAddr, Sem.run_bind, Sem.run_pure, Result.andThen_ok, storeVar, hsize, hlen, hsz]
                simpa using hst
              · rcases hk with hk | hk
                · exact setRow_other _ _ _ _ hk
                · exact absurd hnil hk
              · have hal : (enc a').length = b.sz := by rw [ha']; unfold splice; rw [splice_length hle, hel]
                refine ⟨by simpa using hlen', fun y hy => ?_, .inr ⟨hnil, by simpa using hcap, _, setRow_heap _ _ _ _ _ _ hheap, ?_, fun k y m u hk hu => ?_, hSb, hFb⟩⟩
                · rcases List.mem_or_eq_of_mem_set hy with hy | rfl
                  · exact hszs y hy
                  · exact ⟨hal, by rw [ha']; exact allOne_splice (hszs _ (List.mem_of_getElem? hg)).2 hone o⟩
                · simp only [Nat.add_zero, List.size_toArray, List.append_assoc]
                  rw [splice_length (by simp; omega)]
                  simpa using hvsz
                · simp only [Nat.add_zero, List.append_assoc, List.getElem?_toArray]
                  rw [spliceV_get (by simp; omega)]
                  have hm : m < b.sz := by
                    have h1 := (List.getElem?_eq_some_iff.1 hu).1
                    rw [List.getElem?_set] at hk
                    split at hk
                    · split at hk
                      · cases hk; omega
                      · simp at hk
                    · have := (hszs y (List.mem_of_getElem? hk)).1; omega
                  by_cases hkj : k = j
                  · subst hkj
                    rw [List.getElem?_set_self (by omega)] at hk
                    cases hk
                    rw [ha'] at hu
                    unfold splice at hu
                    rw [spliceV_get hle] at hu
                    by_cases h1 : m < o
                    · rw [if_pos (by omega)]
                      rw [if_pos h1] at hu
                      simpa using hcell k _ m u hg hu
                    · rw [if_neg h1] at hu
                      rw [if_neg (by omega)]
                      by_cases h2 : m < o + cs'.length
                      · rw [if_pos h2] at hu
                        rw [if_pos (by simp; omega)]
                        obtain ⟨v, hv, hr⟩ := hpc.2 _ u hu
                        exact ⟨v, by rw [← hv]; congr 1; omega, hr⟩
                      · rw [if_neg h2] at hu
                        rw [if_neg (by simp; omega)]
                        simpa using hcell k _ m u hg hu
                  · rw [List.getElem?_set_ne (by omega)] at hk
                    have hother : k * b.sz + m < j * b.sz ∨ j * b.sz + b.sz ≤ k * b.sz + m := by
                      rcases Nat.lt_or_ge k j with hh | hh
                      · left
                        have : (k + 1) * b.sz ≤ j * b.sz := Nat.mul_le_mul_right _ (by omega)
                        rw [Nat.add_mul] at this; omega
                      · right
                        have : (j + 1) * b.sz ≤ k * b.sz := Nat.mul_le_mul_right _ (by omega)
                        rw [Nat.add_mul] at this; omega
                    have hget := hcell k y m u hk hu
                    by_cases h1 : k * b.sz + m < j * b.sz + o
                    · rw [if_pos h1]; simpa using hget
                    · rw [if_neg h1, if_neg (by simp; omega)]; simpa using hget
            · exact h.elim
          · exact h.elim
        · exact h.elim
      · exact h.elim
    · exact h.elim
  · exact h.elim

end
end Go.Proofs.Ytihligeggkpolaa
