/-
  append: the model's run leaves what the abstract operation says.
-/
import Derived.Test.YtihligeggkpolaaSymJ
namespace Go.Proofs.Ytihligeggkpolaa

section
variable {S F : Store} {ρ : Env} {M : Mem} {w : World} {P : Program} {tt : TT}

/-- what is to be appended lies in memory -/
structure Src (S : Store) (w : World) (v : Value) {β : Type} (enc : β → List AV) (l : List β) (sz : Nat) (news : List Value) : Prop where
  form : ∃ base cap, v = .slice base l.length cap ∧ ((base = none ∧ news = []) ∨ ∃ ad, base = some ad ∧ ∀ j u, news[j]? = some u → w.cell? (ad.add j) = some u)
  len : news.length = l.length * sz
  szs : ∀ a ∈ l, (enc a).length = sz
  one : ∀ a ∈ l, allOne (enc a) = true
  vals : ∀ i a j u, l[i]? = some a → (enc a)[j]? = some u → ∃ v, news[i * sz + j]? = some v ∧ RP S v u

theorem Src.of_sl {β : Type} {d : β} {enc : β → List AV} {l : List β} {v : Value} (hS : S.inW w) (h : RP S v (.sl d enc l)) {n : Nat} (hn : (enc (l.getD 0 d)).length = n) : ∃ news, Src S w v enc l n news := by
  have hall := sz_of h hn
  cases h with
  | sl _ _ _ base cap sz vals hcap ho hsz hb hn' hv =>
    by_cases hl : l = []
    · subst hl
      refine ⟨[], ⟨base, cap, rfl, ?_⟩, by simp, by simp, by simp, by simp⟩
      cases base with
      | none => exact .inl ⟨rfl, rfl⟩
      | some a => exact .inr ⟨a, rfl, by simp⟩
    · have hpos : 0 < l.length := List.length_pos_iff.2 hl
      have hs : sz = n := by
        have hm := List.getElem_mem hpos
        rw [← hsz _ hm, hall _ hm]
      subst hs
      cases base with
      | none => exact absurd rfl (hn' hl)
      | some ad =>
        by_cases hz : sz = 0
        · subst hz
          refine ⟨[], ⟨some ad, cap, rfl, .inr ⟨ad, rfl, by simp⟩⟩, by simp, hall, ho, fun i a j u ha hu => ?_⟩
          have := hall a (List.mem_of_getElem? ha)
          have := (List.getElem?_eq_some_iff.1 hu).1
          omega
        · have hzp : 0 < sz := by omega
          let news : List Value := (List.range (l.length * sz)).map fun k => vals (k / sz) (k % sz)
          have hnews : ∀ i j, i < l.length → j < sz → news[i * sz + j]? = some (vals i j) := by
            intro i j hi hj
            have hlt : i * sz + j < l.length * sz := by
              have : (i + 1) * sz ≤ l.length * sz := Nat.mul_le_mul_right _ (by omega)
              rw [Nat.add_mul] at this; omega
            have h1 : (i * sz + j) / sz = i := by rw [Nat.mul_comm, Nat.mul_add_div hzp, Nat.div_eq_of_lt hj]; rfl
            have h2 : (i * sz + j) % sz = j := by rw [Nat.mul_comm, Nat.mul_add_mod]; exact Nat.mod_eq_of_lt hj
            simp [news, hlt, h1, h2]
          refine ⟨news, ⟨some ad, cap, rfl, .inr ⟨ad, rfl, fun k u hk => ?_⟩⟩, by simp [news], hall, ho, fun i a j u ha hu => ?_⟩
          · have hk' : k < l.length * sz := by have := (List.getElem?_eq_some_iff.1 hk).1; simpa [news] using this
            have h1 : k / sz < l.length := by rw [Nat.div_lt_iff_lt_mul hzp]; exact hk'
            have h2 : k % sz < sz := Nat.mod_lt _ hzp
            obtain ⟨ad', e, hc⟩ := hb _ _ h1 h2
            injection e with e; subst e
            have hkk : k / sz * sz + k % sz = k := by rw [Nat.mul_comm]; exact Nat.div_add_mod k sz
            have := hnews _ _ h1 h2
            rw [hkk] at this hc
            rw [hk] at this
            injection this with this
            rw [this]
            exact Store.cell_w hS hc
          · have hi := (List.getElem?_eq_some_iff.1 ha).1
            have hj : j < sz := by rw [← hall a (List.mem_of_getElem? ha)]; exact (List.getElem?_eq_some_iff.1 hu).1
            exact ⟨_, hnews i j hi hj, hv _ _ _ _ ha hu⟩

theorem take_flat {α : Type} {l : List α} {enc : α → List AV} {vs : Array Value} {sz : Nat} (h : l.length * sz ≤ vs.size) (hs : ∀ a ∈ l, (enc a).length = sz)
    (hc : ∀ i a j u, l[i]? = some a → (enc a)[j]? = some u → ∃ v, vs[i * sz + j]? = some v ∧ RP S v u) :
    (vs.toList.take (l.length * sz)).length = l.length * sz ∧ ∀ i a j u, l[i]? = some a → (enc a)[j]? = some u → ∃ v, (vs.toList.take (l.length * sz))[i * sz + j]? = some v ∧ RP S v u := by
  refine ⟨by simp; omega, fun i a j u ha hu => ?_⟩
  obtain ⟨v, hv, hr⟩ := hc i a j u ha hu
  have hi := (List.getElem?_eq_some_iff.1 ha).1
  have hj : j < sz := by rw [← hs a (List.mem_of_getElem? ha)]; exact (List.getElem?_eq_some_iff.1 hu).1
  have hlt : i * sz + j < l.length * sz := by
    have : (i + 1) * sz ≤ l.length * sz := Nat.mul_le_mul_right _ (by omega)
    rw [Nat.add_mul] at this; omega
  exact ⟨v, by rw [List.getElem?_take, if_pos hlt]; simpa using hv, hr⟩

theorem srcK_ok {x : AV} {v : Value} {K : (α : Type) → α → (α → List AV) → List α → Prop} (h : srcK x M K) (hM : RepM S F ρ M w) (hv : RV S ρ v x) :
    ∃ (β : Type) (d : β) (enc : β → List AV) (l : List β), K β d enc l ∧ ∀ n, (enc (l.getD 0 d)).length = n → ∃ news, Src S w v enc l n news := by
  unfold srcK at h
  split at h
  · exact ⟨_, _, _, _, h, fun n hn => Src.of_sl hM.sw hv.sl_inv hn⟩
  · obtain ⟨b, hb, _, _, _, rfl⟩ := hv.row_inv
    split at h
    · rename_i ℓ _ _ t α d enc l hl
      refine ⟨_, _, _, _, h, fun n hn => ?_⟩
      obtain ⟨b', hb', hlen, hszs, hcase⟩ := hM.blk _ _ hl
      rw [hb] at hb'; cases hb'
      rcases hcase with ⟨hnil, rfl, hcap⟩ | ⟨hnil, hcap, vs, hheap, hvsz, hcell, _⟩
      · have : b.len = 0 := by simpa using hlen
        exact ⟨[], ⟨none, b.cap, by simp [Lab.hdr, hnil, this], .inl ⟨rfl, rfl⟩⟩, by simp, by simp, by simp, by simp⟩
      · by_cases hl0 : l = []
        · subst hl0
          have : b.len = 0 := by simpa using hlen
          exact ⟨[], ⟨some ⟨b.blk, 0, none⟩, b.cap, by simp [Lab.hdr, hnil, this], .inr ⟨_, rfl, by simp⟩⟩, by simp, by simp, by simp, by simp⟩
        · have hpos : 0 < l.length := List.length_pos_iff.2 hl0
          have hs : b.sz = n := by
            rw [← hn, ← (hszs _ (List.mem_of_getElem? (getD_of_lt (d := d) hpos))).1]
          subst hs
          have hle : l.length * b.sz ≤ vs.size := by rw [hvsz]; exact Nat.mul_le_mul_right _ hcap
          obtain ⟨h1, h2⟩ := take_flat hle (fun a ha => (hszs a ha).1) hcell
          refine ⟨vs.toList.take (l.length * b.sz), ⟨some ⟨b.blk, 0, none⟩, b.cap, by simp [Lab.hdr, hnil, hlen], .inr ⟨_, rfl, fun j u hj => ?_⟩⟩, h1, fun a ha => (hszs a ha).1, fun a ha => (hszs a ha).2, h2⟩
          rw [List.getElem?_take] at hj
          split at hj
          · rw [Addr.add_mk]; simp only [World.cell?, hheap]; simpa using hj
          · simp at hj
    · rename_i ℓ _ _ α d enc l hl
      obtain ⟨b', hb', hlen, hr⟩ := hM.blk _ _ hl
      rw [hb] at hb'; cases hb'
      exact ⟨_, _, _, _, h, fun n hn => Src.of_sl hM.sw hr hn⟩
    · exact h.elim
  · exact h.elim

theorem Src.run {v : Value} {β : Type} {enc : β → List AV} {l : List β} {sz : Nat} {news : List Value} (h : Src S w v enc l sz news) (k : Nat) : (Builtin.firstCells sz l.length v).run P { w with drawn := k } = .ok news.toArray { w with drawn := k } := by
  obtain ⟨base, cap, rfl, hb⟩ := h.form
  rcases hb with ⟨rfl, rfl⟩ | ⟨ad, rfl, hc⟩
  · exact run_firstCells_none _ _ _ _ _
  · exact run_firstCells_some _ _ _ _ _ _ _ h.len hc
theorem Src.lenOf {v : Value} {β : Type} {enc : β → List AV} {l : List β} {sz : Nat} {news : List Value} (h : Src S w v enc l sz news) : (Builtin.lenOf v).run P w = .ok l.length w := by
  obtain ⟨base, cap, rfl, hb⟩ := h.form
  rfl

theorem zc_size (z : Array Value) (n : Nat) : (Builtin.zeroCells z n).size = n * z.size := by simp [Builtin.zeroCells]

/-- append where there is no room (or to nil): a new row -/
theorem run_grow (hT : TOkB P tt = true) {t t' e : TypeId} {i : TI} (ht : P.underlying t = some (.slice e)) (ht' : isSlice tt t' = true) (hi : tt.find e = some i) {ty : TypeId}
    {base : Option Addr} {sLen sCap : Nat} {v : Value} {β : Type} {enc : β → List AV} {l : List β} {news olds : List Value} (hx : Src S w v enc l i.size news)
    (hold : ∀ k, (Builtin.firstCells i.size sLen (.slice base sLen sCap)).run P { w with drawn := k } = .ok olds.toArray { w with drawn := k })
    (hneed : sCap < sLen + l.length) (hbyte : (sLen + l.length) * i.bytes ≤ 140737488355328) (hpos : 0 < i.bytes) :
    ∃ cap rest, sLen + l.length ≤ cap ∧ rest.size = (cap - (sLen + l.length)) * i.size ∧
      (Builtin.append_ #[t, t'] ty #[.slice base sLen sCap, v]).run P w = .ok (.slice (some ⟨w.heap.size, 0, none⟩) (sLen + l.length) cap) (({ w with drawn := w.drawn + 1 } : World).alloc (.cells (olds.toArray ++ news.toArray ++ rest) e)) := by
  obtain ⟨e', he'⟩ := isSlice_ok hT ht'
  obtain ⟨x, z, hx', hxs, hxb, hz, hzc, _, hzl⟩ := TOk.info hT hi
  have hzs : z.cells.size = i.size := by rw [← Array.length_toList, hzc, hzl]
  let q : Question := .appendCap (sLen + l.length) sCap e
  let cap := q.cut (w.tape w.drawn q)
  refine ⟨cap, Builtin.zeroCells z.cells (cap - (sLen + l.length)), ?_, by rw [zc_size, hzs], ?_⟩
  · show sLen + l.length ≤ (sLen + l.length) + _ % _
    omega
  have hsz : ∀ w, (Go.sizeOf e).run P w = .ok i.size w := fun w => TOk.size hT hi w
  have hfit := growslice_fits (need := sLen + l.length) (old := sCap) (bytes := i.bytes) hneed hbyte
  have hchoose : (choose q).run P w = .ok cap { w with drawn := w.drawn + 1 } := by
    simp [choose, Sem.run, q, Question.forced, cap]
  have hlen := hx.lenOf (P := P)
  have hnew := hx.run (P := P) (w.drawn + 1)
  have hold' := hold (w.drawn + 1)
  have hgt : ¬ (sLen + l.length ≤ sCap) := by omega
  have hmax : ¬ (((sLen + l.length : Nat) : Int) > IntKind.i64.max ∧ (False ∨ i.bytes = 0)) := fun hh => by rcases hh.2 with h | h
                                                                                                            · exact h
                                                                                                            · omega
  have h48 : ¬ (Builtin.nextslicecap (sLen + l.length) sCap * i.bytes > 2 ^ 48) := by
    have : (2 : Nat) ^ 48 = 281474976710656 := by decide
    omega
  simp only [Builtin.append_, Sem.run_bind, run_underlying ht, run_underlying he', Result.andThen_ok, hsz, Sem.run_pure, List.getElem?_toArray, List.getElem?_cons_zero, List.getElem?_cons_succ, Bool.false_eq_true, if_false, hlen, hgt, typeInfo, run_program, hx', hxb, Sem.run_ite]
  rw [if_neg (by simpa using hmax)]
  rw [if_neg h48]
  rw [hchoose]
  simp only [Result.andThen_ok, run_askRoom, hold', Bool.not_false, if_true, hnew, zeroValue, typeInfo, Sem.run_bind, run_program, hx', hz, Sem.run_pure, newRow, run_newObj]
  rfl

/-- append where there is room -/
theorem run_room (hT : TOkB P tt = true) {t t' e : TypeId} {i : TI} (ht : P.underlying t = some (.slice e)) (ht' : isSlice tt t' = true) (hi : tt.find e = some i) {ty rt : TypeId}
    {g sLen sCap : Nat} {v : Value} {β : Type} {enc : β → List AV} {l : List β} {news : List Value} {cur : Array Value} (hx : Src S w v enc l i.size news)
    (hg : w.heap[g]? = some (.cells cur rt (0, 0))) (hcur : cur.size = sCap * i.size) (hone : ∀ u ∈ news, u.oneCell' = true) (hneed : sLen + l.length ≤ sCap) :
      (Builtin.append_ #[t, t'] ty #[.slice (some ⟨g, 0, none⟩) sLen sCap, v]).run P w = .ok (.slice (some ⟨g, 0, none⟩) (sLen + l.length) sCap)
        (w.setRow g (cur.toList.take (sLen * i.size) ++ news ++ cur.toList.drop (sLen * i.size + news.length)).toArray) := by
  obtain ⟨e', he'⟩ := isSlice_ok hT ht'
  have hsz : ∀ w, (Go.sizeOf e).run P w = .ok i.size w := fun w => TOk.size hT hi w
  have hlen := hx.lenOf (P := P)
  have hnew : (Builtin.firstCells i.size l.length v).run P w = .ok news.toArray w := hx.run (P := P) w.drawn
  have hfit : sLen * i.size + news.length ≤ cur.size := by
    rw [hx.len, hcur, ← Nat.add_mul]; exact Nat.mul_le_mul_right _ hneed
  have hst := run_storeCells_at P g (sLen * i.size) rt news 0 cur w hg (by simpa using hfit) hone
  simp only [Nat.add_zero] at hst
  simp only [Builtin.append_, Sem.run_bind, run_underlying ht, run_underlying he', Result.andThen_ok, hsz, Sem.run_pure, List.getElem?_toArray, List.getElem?_cons_zero, List.getElem?_cons_succ, Bool.false_eq_true, if_false, hlen, hneed, if_true, Bool.not_false, hnew, Addr.add_mk, Nat.zero_add, hst]

theorem Src.allOne {v : Value} {β : Type} {enc : β → List AV} {l : List β} {sz : Nat} {news : List Value} (h : Src S w v enc l sz news) {α : Type} {enc' : α → List AV} {l'' : List α} (hm : l''.map enc' = l.map enc) :
    ∀ i a j u, l''[i]? = some a → (enc' a)[j]? = some u → ∃ v, news[i * sz + j]? = some v ∧ RP S v u := by
  intro i a j u ha hu
  have hi : (l.map enc)[i]? = some (enc' a) := by rw [← hm, List.getElem?_map, ha]; rfl
  rw [List.getElem?_map] at hi
  obtain ⟨y, hy, he⟩ := Option.map_eq_some_iff.1 hi
  exact h.vals i y j u hy (by rw [he]; exact hu)

theorem join_cells {α : Type} {l l'' : List α} {enc : α → List AV} {olds news : List Value} {sz : Nat} (ho : olds.length = l.length * sz) (hs : ∀ a ∈ l, (enc a).length = sz)
    (h1 : ∀ i a j u, l[i]? = some a → (enc a)[j]? = some u → ∃ v, olds[i * sz + j]? = some v ∧ RP S v u)
    (h2 : ∀ i a j u, l''[i]? = some a → (enc a)[j]? = some u → ∃ v, news[i * sz + j]? = some v ∧ RP S v u) (rest : List Value) :
    ∀ i a j u, (l ++ l'')[i]? = some a → (enc a)[j]? = some u → ∃ v, (olds ++ (news ++ rest))[i * sz + j]? = some v ∧ RP S v u := by
  intro i a j u ha hu
  by_cases hi : i < l.length
  · rw [List.getElem?_append_left hi] at ha
    have hj : j < sz := by rw [← hs a (List.mem_of_getElem? ha)]; exact (List.getElem?_eq_some_iff.1 hu).1
    have hlt : i * sz + j < olds.length := by
      have : (i + 1) * sz ≤ l.length * sz := Nat.mul_le_mul_right _ (by omega)
      rw [Nat.add_mul] at this; omega
    rw [List.getElem?_append_left hlt]
    exact h1 i a j u ha hu
  · rw [List.getElem?_append_right (by omega)] at ha
    obtain ⟨v, hv, hr⟩ := h2 _ a j u ha hu
    have hge : l.length * sz ≤ i * sz := Nat.mul_le_mul_right _ (by omega)
    refine ⟨v, ?_, hr⟩
    rw [List.getElem?_append_right (by omega), ho, show i * sz + j - l.length * sz = (i - l.length) * sz + j from by rw [Nat.sub_mul]; omega,
      List.getElem?_append_left (List.getElem?_eq_some_iff.1 hv).1]
    exact hv

theorem one_of_src {v : Value} {β : Type} {enc : β → List AV} {l : List β} {sz : Nat} {news : List Value} (h : Src S w v enc l sz news) (hsz : 0 < sz) : ∀ u ∈ news, u.oneCell' = true := by
  intro u hu
  obtain ⟨k, hk⟩ := List.getElem?_of_mem hu
  have hlt := (List.getElem?_eq_some_iff.1 hk).1
  rw [h.len] at hlt
  have h1 : k / sz < l.length := by rw [Nat.div_lt_iff_lt_mul hsz]; exact hlt
  have h2 : k % sz < sz := Nat.mod_lt _ hsz
  have ha : l[k / sz]? = some l[k / sz] := List.getElem?_eq_getElem h1
  have hl := h.szs _ (List.getElem_mem h1)
  have hj : (enc l[k / sz])[k % sz]? = some (enc l[k / sz])[k % sz] := List.getElem?_eq_getElem (by omega)
  obtain ⟨x, hx, hr⟩ := h.vals _ _ _ _ ha hj
  have hkk : k / sz * sz + k % sz = k := by rw [Nat.mul_comm]; exact Nat.div_add_mod k sz
  rw [hkk, hk] at hx
  injection hx with hx
  subst hx
  exact oneA_ok (ρ := fun _ => none) (allOne_iff.1 (h.one _ (List.getElem_mem h1)) _ (List.mem_of_getElem? hj)) (.p hr)

end
end Go.Proofs.Ytihligeggkpolaa
