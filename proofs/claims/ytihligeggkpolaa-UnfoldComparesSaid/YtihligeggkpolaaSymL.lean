/-
  append: the abstract operation is sound.
-/
import Derived.Test.YtihligeggkpolaaSymK
namespace Go.Proofs.Ytihligeggkpolaa

section
variable {S F : Store} {ρ : Env} {M : Mem} {w : World} {P : Program} {tt : TT}

theorem src_one {v : Value} {β : Type} {enc : β → List AV} {l : List β} {sz : Nat} {news : List Value} (h : Src S w v enc l sz news) : ∀ u ∈ news, u.oneCell' = true := by
  by_cases hsz : 0 < sz
  · exact one_of_src h hsz
  · have : sz = 0 := by omega
    subst this
    have := h.len
    simp at this
    subst this
    simp

theorem map_all {α β : Type} {enc : α → List AV} {enc' : β → List AV} {l : List α} {l' : List β} (h : l.map enc = l'.map enc') {p : List AV → Prop} (hp : ∀ b ∈ l', p (enc' b)) : ∀ a ∈ l, p (enc a) := by
  intro a ha
  have : enc a ∈ l.map enc := List.mem_map_of_mem ha
  rw [h] at this
  obtain ⟨b, hb, e⟩ := List.mem_map.1 this
  rw [← e]; exact hp b hb

theorem Wle.draw_alloc (w : World) (n : Nat) (vs : Array Value) (t : TypeId) : Wle w (({ w with drawn := n } : World).alloc (.cells vs t)) :=
  (Wle.drawn w n).trans (Wle.alloc_cells _ _ _)

theorem appendK_ok (hT : TOkB P tt = true) {ts : List TypeId} {ty : TypeId} {dst : Option Tmp} {K : AV → Mem → Prop} {us : List AV} {vs : List Value} (h : appendK tt ts us dst M K) (hM : RepM S F ρ M w) (hv : RVs S ρ vs us) :
    Leaves P S F ρ w (Builtin.append_ ts.toArray ty vs.toArray) K := by
  unfold appendK at h
  split at h
  · rename_i d t t' s x
    obtain ⟨vs0, ys, rfl, hs, hv⟩ := hv.cons_inv
    obtain ⟨vx, ys, rfl, hx, hv⟩ := hv.cons_inv
    have := hv.nil_inv; subst this
    split at h
    · rename_i sz0 by0 e z0 ht ht' hd
      have hte := TOk.slice hT ht
      split at h
      · rename_i i hi
        split at h
        · exact h.elim
        · rename_i m hbm
          have hbpos : 0 < i.bytes := by rw [hbm]; omega
          have h' := srcK_ok h hM hx
          clear h
          obtain ⟨β, dd', enc', l', h, hsrc⟩ := h'
          split at h
          · rename_i hsz
            have hsz := Nat.eq_of_beq_eq_true hsz
            obtain ⟨news, hnews⟩ := hsrc _ hsz
            split at h
            · -- nil
              cases hs.nilsl_inv
              rw [needK_iff] at h
              obtain ⟨hb, hK⟩ := h
              by_cases hl : l' = []
              · subst hl
                let b : Lab := ⟨0, 0, 0, i.size, true⟩
                refine ⟨.slice none 0 0, _, _, S, Env.set ρ d b, w, ?_, hK, Store.le_refl _, Env.set_le _ (hM.fresh hd), hM.add hd b _ (fun _ _ _ _ _ _ hh => by cases hh) ?_, ?_, Wle.refl _⟩
                · obtain ⟨e', he'⟩ := isSlice_ok hT ht'
                  have hlen := hnews.lenOf (P := P)
                  have hnew : (Builtin.firstCells i.size ([] : List β).length vx).run P w = .ok news.toArray w := hnews.run (P := P) w.drawn
                  have hsize := TOk.size hT hi w
                  simp only [List.length_nil] at hlen hnew
                  simp [Builtin.append_, run_underlying hte, run_underlying he', hsize, hlen, hnew]
                · exact ⟨rfl, by simp, .inl ⟨rfl, rfl, rfl⟩⟩
                · exact .row d 0 i.size b (Env.set_eq _ _ _) rfl rfl (by simp [b])
              · have hpos : 0 < l'.length := List.length_pos_iff.2 hl
                obtain ⟨cap, rest, hcap, hrest, hrun⟩ := run_grow (P := P) (ty := ty) (base := none) (sLen := 0) (sCap := 0) (olds := []) hT hte ht' hi hnews (fun k => run_firstCells_none _ _ _ _ _) (by omega) (by rw [Nat.zero_add]; exact hb) hbpos
                simp only [Nat.zero_add] at hcap hrest hrun
                let b : Lab := ⟨w.heap.size, l'.length, cap, i.size, false⟩
                have hM1 := hM.drawn (w.drawn + 1)
                refine ⟨_, _, _, S, Env.set ρ d b, _, hrun, hK, Store.le_refl _, Env.set_le _ (hM.fresh hd), hM1.alloc hd _ e b _ (fun _ => rfl) ?_, .row d l'.length i.size b (Env.set_eq _ _ _) rfl rfl (by simp [b]), Wle.draw_alloc _ _ _ _⟩
                refine ⟨rfl, fun a ha => ⟨hnews.szs a ha, hnews.one a ha⟩, .inr ⟨rfl, hcap, _, heap_push_new _ _, ?_, fun k a j u hk hu => ?_, Store.inW_size hM.sw, Store.inW_size hM.fw⟩⟩
                · simp only [Array.size_append, List.size_toArray, List.length_nil, hnews.len, hrest]
                  show 0 + l'.length * i.size + (cap - l'.length) * i.size = cap * i.size
                  rw [Nat.zero_add, ← Nat.add_mul]
                  congr 1; omega
                · obtain ⟨v, hv, hr⟩ := hnews.vals k a j u hk hu
                  refine ⟨v, ?_, hr⟩
                  have hlt := (List.getElem?_eq_some_iff.1 hv).1
                  show (([] : List Value).toArray ++ news.toArray ++ rest)[k * i.size + j]? = some v
                  rw [Array.getElem?_append_left (by simpa using hlt)]
                  simpa using hv
            · -- a row of the call's own
              rename_i ℓ n sz
              split at h
              · rename_i e' α dd enc l hl hsz'
                have hsz' := Nat.eq_of_beq_eq_true hsz'
                subst hsz'
                obtain ⟨b, hb, rfl, hbsz, hz, rfl⟩ := hs.row_inv
                split at h
                · rename_i hee hxx
                  have hee := Nat.eq_of_beq_eq_true hee
                  subst hee
                  rw [appK_iff] at h
                  obtain ⟨hbyte, l'', hmap, hK⟩ := h
                  obtain ⟨b', hb', hlen, hszs, hcase⟩ := hM.blk _ _ hl
                  rw [hb] at hb'; cases hb'
                  have hll : l''.length = l'.length := by have := congrArg List.length hmap; simpa using this
                  have hM0 := hM.kill hl
                  have hdℓ : d ≠ ℓ := fun e => by subst e; rw [hd] at hl; cases hl
                  have hd0 : (M.set ℓ .dead) d = none := by rw [Mem.set_ne _ _ hdℓ]; exact hd
                  have hszs' : ∀ a ∈ l ++ l'', (enc a).length = i.size ∧ allOne (enc a) = true := by
                    intro a ha
                    rcases List.mem_append.1 ha with ha | ha
                    · have := hszs a ha; rw [hbsz] at this; exact this
                    · exact map_all hmap (p := fun x => x.length = i.size ∧ allOne x = true) (fun y hy => ⟨hnews.szs y hy, hnews.one y hy⟩) a ha
                  have hcell2 := hnews.allOne hmap
                  by_cases hroom : b.len + l'.length ≤ b.cap
                  · rcases hcase with ⟨hnil, rfl, hcap0⟩ | ⟨hnil, hcap, cur, hheap, hvsz, hcell, hSb, hFb⟩
                    · -- nil and nothing to append
                      have hl0 : l' = [] := List.eq_nil_of_length_eq_zero (by omega)
                      subst hl0
                      have hl0' : l'' = [] := List.eq_nil_of_length_eq_zero (by simpa using hll)
                      subst hl0'
                      let c : Lab := ⟨0, 0, 0, i.size, true⟩
                      have hbl : b.len = 0 := by simpa using hlen
                      refine ⟨.slice none 0 0, _, _, S, Env.set ρ d c, w, ?_, hK, Store.le_refl _, Env.set_le _ (hM.fresh hd), hM0.add hd0 c _ (fun _ _ _ _ _ _ hh => by cases hh) ?_, ?_, Wle.refl _⟩
                      · obtain ⟨e2, he2⟩ := isSlice_ok hT ht'
                        have hlen' := hnews.lenOf (P := P)
                        have hnew : (Builtin.firstCells i.size ([] : List β).length vx).run P w = .ok news.toArray w := hnews.run (P := P) w.drawn
                        have hsize := TOk.size hT hi w
                        simp only [List.length_nil] at hlen' hnew
                        simp [Builtin.append_, run_underlying hte, run_underlying he2, hsize, hlen', hnew, Lab.hdr, hnil, hbl, hcap0]
                      · exact ⟨rfl, by simp, .inl ⟨rfl, rfl, rfl⟩⟩
                      · have := RV.row (S := S) (ρ := Env.set ρ d c) d 0 i.size c (Env.set_eq _ _ _) rfl rfl (by simp [c])
                        simpa [hbl, Lab.hdr, c] using this
                    · rw [hbsz] at hvsz hcell
                      have hhdr : b.hdr = .slice (some ⟨b.blk, 0, none⟩) b.len b.cap := by simp [Lab.hdr, hnil]
                      have hrun := run_room (P := P) (ty := ty) (rt := e') (g := b.blk) (sLen := b.len) (sCap := b.cap) hT hte ht' hi hnews hheap hvsz (src_one hnews) hroom
                      let arr := (cur.toList.take (b.len * i.size) ++ news ++ cur.toList.drop (b.len * i.size + news.length)).toArray
                      let c : Lab := ⟨b.blk, b.len + l'.length, b.cap, i.size, false⟩
                      have hMw : RepM S F ρ (M.set ℓ .dead) (w.setRow b.blk arr) := hM.upd (B' := .dead) hl hb (fun k hk => by
                        rcases hk with hk | hk
                        · exact setRow_other _ _ _ _ hk
                        · exact absurd hnil hk) (fun hh => hh.elim) trivial
                      have hlw : l.length * i.size ≤ cur.size := by rw [hvsz]; exact Nat.mul_le_mul_right _ hcap
                      refine ⟨_, _, _, S, Env.set ρ d c, _, by rw [hhdr]; exact hrun, hK, Store.le_refl _, Env.set_le _ (hM.fresh hd), hMw.add hd0 c _ (fun y C k hC hk hL _ => ?_) ?_, .row d (b.len + l'.length) i.size c (Env.set_eq _ _ _) rfl rfl (by simp [c]), Wle.setRow hheap⟩
                      · by_cases e : y = ℓ
                        · subst e; rw [Mem.set_eq] at hC; cases hC; exact hL.elim
                        · rw [Mem.set_ne _ _ e] at hC
                          exact hM.inj y ℓ C _ k b hC hl hk hb hL (by exact hnil) e
                      · obtain ⟨h1, h2⟩ := take_flat hlw (fun a ha => by rw [← hbsz]; exact (hszs a ha).1) hcell
                        refine ⟨by simp [c, hlen, hll], hszs', .inr ⟨rfl, by simp [c, hll]; omega, arr, setRow_heap _ _ _ _ _ _ hheap, ?_, fun k a j u hk hu => ?_, hSb, hFb⟩⟩
                        · have hfit : b.len * i.size + news.length ≤ cur.size := by
                            rw [hnews.len, hvsz, ← Nat.add_mul]; exact Nat.mul_le_mul_right _ hroom
                          simp only [arr, List.size_toArray, List.append_assoc]
                          rw [splice_length (by simpa using hfit)]
                          simpa using hvsz
                        · have := join_cells (S := S) h1 (fun a ha => by rw [← hbsz]; exact (hszs a ha).1) h2 hcell2 (cur.toList.drop (b.len * i.size + news.length)) k a j u hk hu
                          obtain ⟨v, hv, hr⟩ := this
                          refine ⟨v, ?_, hr⟩
                          show arr[k * i.size + j]? = some v
                          simp only [arr, List.getElem?_toArray, List.append_assoc, hlen]
                          simp only [hlen] at hv
                          exact hv
                  · -- a new array
                    have hfirst : ∃ olds : List Value, olds.length = l.length * i.size ∧ (∀ k, (Builtin.firstCells i.size b.len b.hdr).run P { w with drawn := k } = .ok olds.toArray { w with drawn := k }) ∧
                        ∀ k a j u, l[k]? = some a → (enc a)[j]? = some u → ∃ v, olds[k * i.size + j]? = some v ∧ RP S v u := by
                      rcases hcase with ⟨hnil, rfl, hcap0⟩ | ⟨hnil, hcap, cur, hheap, hvsz, hcell, hSb, hFb⟩
                      · refine ⟨[], by simp, fun k => ?_, by simp⟩
                        have : b.hdr = .slice none b.len b.cap := by simp [Lab.hdr, hnil]
                        rw [this]; exact run_firstCells_none _ _ _ _ _
                      · rw [hbsz] at hvsz hcell
                        have hlw : l.length * i.size ≤ cur.size := by rw [hvsz]; exact Nat.mul_le_mul_right _ hcap
                        obtain ⟨h1, h2⟩ := take_flat hlw (fun a ha => by rw [← hbsz]; exact (hszs a ha).1) hcell
                        refine ⟨cur.toList.take (l.length * i.size), h1, fun k => ?_, h2⟩
                        have : b.hdr = .slice (some ⟨b.blk, 0, none⟩) b.len b.cap := by simp [Lab.hdr, hnil]
                        rw [this]
                        refine run_firstCells_some _ _ _ _ _ _ _ (by rw [h1, hlen]) (fun j v hj => ?_)
                        rw [List.getElem?_take] at hj
                        split at hj
                        · rw [Addr.add_mk]; simp only [World.cell?, hheap]; simpa using hj
                        · simp at hj
                    obtain ⟨olds, ho1, ho2, ho3⟩ := hfirst
                    obtain ⟨base, hbase⟩ : ∃ base, b.hdr = .slice base b.len b.cap := ⟨_, rfl⟩
                    rw [hbase] at ho2
                    obtain ⟨cap, rest, hcap, hrest, hrun⟩ := run_grow (P := P) (ty := ty) (base := base) (sLen := b.len) (sCap := b.cap) (olds := olds) hT hte ht' hi hnews ho2 (by omega) (by rw [hlen]; exact hbyte) hbpos
                    let c : Lab := ⟨w.heap.size, b.len + l'.length, cap, i.size, false⟩
                    have hM1 := hM0.drawn (w.drawn + 1)
                    refine ⟨_, _, _, S, Env.set ρ d c, _, by rw [hbase]; exact hrun, hK, Store.le_refl _, Env.set_le _ (hM.fresh hd), hM1.alloc hd0 _ e' c _ (fun _ => rfl) ?_, .row d (b.len + l'.length) i.size c (Env.set_eq _ _ _) rfl rfl (by simp [c]), Wle.draw_alloc _ _ _ _⟩
                    refine ⟨by simp [c, hlen, hll], hszs', .inr ⟨rfl, by simp [c, hll]; omega, _, heap_push_new _ _, ?_, fun k a j u hk hu => ?_, Store.inW_size hM.sw, Store.inW_size hM.fw⟩⟩
                    · simp only [Array.size_append, List.size_toArray, ho1, hnews.len, hrest]
                      show l.length * i.size + l'.length * i.size + (cap - (b.len + l'.length)) * i.size = cap * i.size
                      rw [← Nat.add_mul, ← Nat.add_mul]
                      congr 1
                      omega
                    · obtain ⟨v, hv, hr⟩ := join_cells (S := S) ho1 (fun a ha => by rw [← hbsz]; exact (hszs a ha).1) ho3 hcell2 rest.toList k a j u hk hu
                      refine ⟨v, ?_, hr⟩
                      show (olds.toArray ++ news.toArray ++ rest)[k * i.size + j]? = some v
                      rw [← hv]
                      have : olds.toArray ++ news.toArray ++ rest = (olds ++ (news ++ rest.toList)).toArray := by apply Array.ext'; simp
                      rw [this]; simp
                · exact h.elim
              · exact h.elim
            · exact h.elim
          · exact h.elim
      · exact h.elim
    · exact h.elim
  · exact h.elim

end
end Go.Proofs.Ytihligeggkpolaa
