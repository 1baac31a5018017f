/-
  How the worlds that an operation makes hold what is known by label.
-/
import Derived.Test.YtihligeggkpolaaSymF
namespace Go.Proofs.Ytihligeggkpolaa

section
variable {S F : Store} {ρ : Env} {M : Mem} {w : World}

theorem lt_of_heap {w : World} {k : Nat} {o : Obj} (h : w.heap[k]? = some o) : k < w.heap.size := by
  rcases Nat.lt_or_ge k w.heap.size with h1 | h1
  · exact h1
  · rw [Array.getElem?_eq_none h1] at h; cases h

theorem Store.inW_size {S : Store} (h : S.inW w) : S w.heap.size = none := by
  cases hb : S w.heap.size with
  | none => rfl
  | some o => have := lt_of_heap (h _ _ hb); omega

/-- a block's worth is kept while its own block, and what stands for good, is kept -/
theorem BlkRep.keep {S S' F : Store} {ρ ρ' : Env} {w w' : World} {b : Lab} {B : Blk} (h : BlkRep S F ρ w b B) (hS : S.le S') (hρ : Env.le ρ ρ')
    (hb : B.live b → w'.heap[b.blk]? = w.heap[b.blk]? ∧ S' b.blk = S b.blk) : BlkRep S' F ρ' w' b B := by
  cases B with
  | box t cells =>
    obtain ⟨vs, h1, h2, h3, h4⟩ := h
    obtain ⟨e1, e2⟩ := hb trivial
    exact ⟨vs, e1.trans h1, h2.mono hS hρ, e2.trans h3, h4⟩
  | row t d enc l =>
    obtain ⟨h1, h2, h3⟩ := h
    refine ⟨h1, h2, h3.imp id fun ⟨hn, hc, vs, h4, h5, h6, h7, h8⟩ => ?_⟩
    obtain ⟨e1, e2⟩ := hb hn
    exact ⟨hn, hc, vs, e1.trans h4, h5, fun i a j u ha hu => let ⟨v, hv, hr⟩ := h6 i a j u ha hu; ⟨v, hv, hr.mono hS⟩, e2.trans h7, h8⟩
  | gone d enc l => exact ⟨h.1, h.2.mono hS⟩
  | dead => trivial

theorem BlkRep.lt {B : Blk} {b : Lab} (h : BlkRep S F ρ w b B) (hl : B.live b) : b.blk < w.heap.size := by
  cases B with
  | box t cells => obtain ⟨vs, h1, _⟩ := h; exact lt_of_heap h1
  | row t d enc l =>
    obtain ⟨_, _, h3⟩ := h
    rcases h3 with ⟨hn, _⟩ | ⟨_, _, vs, h4, _⟩
    · simp only [Blk.live] at hl; rw [hn] at hl; cases hl
    · exact lt_of_heap h4
  | gone d enc l => exact hl.elim
  | dead => exact hl.elim
theorem BlkRep.off {B : Blk} {b : Lab} (h : BlkRep S F ρ w b B) (hl : B.live b) : S b.blk = none ∧ F b.blk = none := by
  cases B with
  | box t cells => obtain ⟨vs, _, _, h1, h2⟩ := h; exact ⟨h1, h2⟩
  | row t d enc l =>
    obtain ⟨_, _, h3⟩ := h
    rcases h3 with ⟨hn, _⟩ | ⟨_, _, vs, _, _, _, h7, h8⟩
    · simp only [Blk.live] at hl; rw [hn] at hl; cases hl
    · exact ⟨h7, h8⟩
  | gone d enc l => exact hl.elim
  | dead => exact hl.elim

def Env.set (ρ : Env) (d : Nat) (b : Lab) : Env := fun x => if x = d then some b else ρ x
theorem Env.set_le {ρ : Env} {d : Nat} (b : Lab) (h : ρ d = none) : Env.le ρ (Env.set ρ d b) := by
  intro ℓ b' hb
  unfold Env.set
  split
  · subst_vars; rw [h] at hb; cases hb
  · exact hb
theorem Env.set_eq (ρ : Env) (d : Nat) (b : Lab) : Env.set ρ d b d = some b := by simp [Env.set]
theorem Env.set_ne (ρ : Env) {d x : Nat} (b : Lab) (h : x ≠ d) : Env.set ρ d b x = ρ x := by simp [Env.set, h]

theorem RepM.fresh (h : RepM S F ρ M w) {d : Nat} (hd : M d = none) : ρ d = none := by
  cases hb : ρ d with
  | none => rfl
  | some b => exact absurd hd (h.dom _ _ hb)

theorem heap_push (w : World) (o : Obj) (k : Nat) (h : k < w.heap.size) : (w.alloc o).heap[k]? = w.heap[k]? := RowKit.Below.heap_alloc w o k h
theorem heap_push_new (w : World) (o : Obj) : (w.alloc o).heap[w.heap.size]? = some o := by show (w.heap.push o)[w.heap.size]? = _; simp

theorem Store.inW_alloc {S : Store} (h : S.inW w) (o : Obj) : S.inW (w.alloc o) := fun b x hb => by
  have := h b x hb
  rw [heap_push w o b (lt_of_heap this)]
  exact this

theorem Wle.alloc_cells (w : World) (vs : Array Value) (t : TypeId) : Wle w (w.alloc (.cells vs t)) :=
  ⟨rfl, rfl, rfl, by show w.heap.size ≤ (w.heap.push _).size; simp, fun a => RowKit.frozen?_alloc_cells w vs t a⟩

/-- a new block under a new label -/
theorem RepM.alloc (h : RepM S F ρ M w) {d : Nat} (hd : M d = none) (vs : Array Value) (t : TypeId) (b : Lab) (B : Blk) (hb : B.live b → b.blk = w.heap.size)
    (hB : BlkRep S F (Env.set ρ d b) (w.alloc (.cells vs t)) b B) : RepM S F (Env.set ρ d b) (M.set d B) (w.alloc (.cells vs t)) := by
  have hf := h.fresh hd
  have hle := Env.set_le b hf
  refine ⟨Store.inW_alloc h.sw _, Store.inW_alloc h.fw _, h.sf, fun ℓ b' hb' => ?_, fun ℓ B' hB' => ?_, fun ℓ ℓ' C C' c c' h1 h2 h3 h4 h5 h6 hne => ?_⟩
  · by_cases e : ℓ = d
    · subst e; rw [Mem.set_eq]; simp
    · rw [Mem.set_ne _ _ e]; rw [Env.set_ne _ _ e] at hb'; exact h.dom _ _ hb'
  · by_cases e : ℓ = d
    · subst e; rw [Mem.set_eq] at hB'; cases hB'; exact ⟨b, Env.set_eq _ _ _, hB⟩
    · rw [Mem.set_ne _ _ e] at hB'
      obtain ⟨b', hb', hr⟩ := h.blk _ _ hB'
      exact ⟨b', by rw [Env.set_ne _ _ e]; exact hb', hr.keep (Store.le_refl _) hle fun hl => ⟨heap_push _ _ _ (hr.lt hl), rfl⟩⟩
  · have other : ∀ x C c, x ≠ d → (M.set d B) x = some C → Env.set ρ d b x = some c → C.live c → c.blk < w.heap.size := by
      intro x C c hx hC hc hl
      rw [Mem.set_ne _ _ hx] at hC
      rw [Env.set_ne _ _ hx] at hc
      obtain ⟨c', hc', hr⟩ := h.blk _ _ hC
      rw [hc] at hc'; cases hc'
      exact hr.lt hl
    by_cases e : ℓ = d
    · subst e
      rw [Mem.set_eq] at h1; cases h1
      rw [Env.set_eq] at h3; cases h3
      have := other ℓ' C' c' (fun e => hne e.symm) h2 h4 h6
      have := hb h5
      omega
    · by_cases e' : ℓ' = d
      · subst e'
        rw [Mem.set_eq] at h2; cases h2
        rw [Env.set_eq] at h4; cases h4
        have := other ℓ C c e h1 h3 h5
        have := hb h6
        omega
      · rw [Mem.set_ne _ _ e] at h1
        rw [Mem.set_ne _ _ e'] at h2
        rw [Env.set_ne _ _ e] at h3
        rw [Env.set_ne _ _ e'] at h4
        exact h.inj ℓ ℓ' C C' c c' h1 h2 h3 h4 h5 h6 hne

/-- a new label for a block that no other label has: no world changes -/
theorem RepM.add (h : RepM S F ρ M w) {d : Nat} (hd : M d = none) (b : Lab) (B : Blk) (hoth : ∀ ℓ C c, M ℓ = some C → ρ ℓ = some c → C.live c → B.live b → c.blk ≠ b.blk)
    (hB : BlkRep S F (Env.set ρ d b) w b B) : RepM S F (Env.set ρ d b) (M.set d B) w := by
  have hf := h.fresh hd
  have hle := Env.set_le b hf
  refine ⟨h.sw, h.fw, h.sf, fun ℓ b' hb' => ?_, fun ℓ B' hB' => ?_, fun ℓ ℓ' C C' c c' h1 h2 h3 h4 h5 h6 hne => ?_⟩
  · by_cases e : ℓ = d
    · subst e; rw [Mem.set_eq]; simp
    · rw [Mem.set_ne _ _ e]; rw [Env.set_ne _ _ e] at hb'; exact h.dom _ _ hb'
  · by_cases e : ℓ = d
    · subst e; rw [Mem.set_eq] at hB'; cases hB'; exact ⟨b, Env.set_eq _ _ _, hB⟩
    · rw [Mem.set_ne _ _ e] at hB'
      obtain ⟨b', hb', hr⟩ := h.blk _ _ hB'
      exact ⟨b', by rw [Env.set_ne _ _ e]; exact hb', hr.keep (Store.le_refl _) hle fun hl => ⟨rfl, rfl⟩⟩
  · by_cases e : ℓ = d
    · subst e
      rw [Mem.set_eq] at h1; cases h1
      rw [Env.set_eq] at h3; cases h3
      have e' : ℓ' ≠ ℓ := fun x => hne x.symm
      rw [Mem.set_ne _ _ e'] at h2
      rw [Env.set_ne _ _ e'] at h4
      exact fun x => hoth _ _ _ h2 h4 h6 h5 x.symm
    · by_cases e' : ℓ' = d
      · subst e'
        rw [Mem.set_eq] at h2; cases h2
        rw [Env.set_eq] at h4; cases h4
        rw [Mem.set_ne _ _ e] at h1
        rw [Env.set_ne _ _ e] at h3
        exact hoth _ _ _ h1 h3 h5 h6
      · rw [Mem.set_ne _ _ e] at h1
        rw [Mem.set_ne _ _ e'] at h2
        rw [Env.set_ne _ _ e] at h3
        rw [Env.set_ne _ _ e'] at h4
        exact h.inj ℓ ℓ' C C' c c' h1 h2 h3 h4 h5 h6 hne

/-- the block of one label is written (or its worth told anew) -/
theorem RepM.upd (h : RepM S F ρ M w) {ℓ : Nat} {B B' : Blk} {b : Lab} (hl : M ℓ = some B) (hb : ρ ℓ = some b) {w' : World}
    (hoth : ∀ k, (k ≠ b.blk ∨ ¬ B.live b) → w'.heap[k]? = w.heap[k]?) (hlive : B'.live b → B.live b)
    (hB : BlkRep S F ρ w' b B') : RepM S F ρ (M.set ℓ B') w' := by
  obtain ⟨b0, hb0, hr0⟩ := h.blk _ _ hl
  rw [hb] at hb0; cases hb0
  have hfar : ∀ k o, w.heap[k]? = some o → (B.live b → k ≠ b.blk) → w'.heap[k]? = some o := fun k o hk hne => by
    rw [hoth k (by by_cases hh : B.live b; exact .inl (hne hh); exact .inr hh)]; exact hk
  refine ⟨fun k o hk => hfar k o (h.sw k o hk) (fun hL e => ?_), fun k o hk => hfar k o (h.fw k o hk) (fun hL e => ?_), h.sf, fun x c hc => ?_, fun x C hC => ?_, fun x x' C C' c c' h1 h2 h3 h4 h5 h6 hne => ?_⟩
  · subst e; rw [(hr0.off hL).1] at hk; cases hk
  · subst e; rw [(hr0.off hL).2] at hk; cases hk
  · by_cases e : x = ℓ
    · subst e; rw [Mem.set_eq]; simp
    · rw [Mem.set_ne _ _ e]; exact h.dom _ _ hc
  · by_cases e : x = ℓ
    · subst e; rw [Mem.set_eq] at hC; cases hC; exact ⟨b, hb, hB⟩
    · rw [Mem.set_ne _ _ e] at hC
      obtain ⟨c, hc, hr⟩ := h.blk _ _ hC
      refine ⟨c, hc, hr.keep (Store.le_refl _) (Env.le_refl _) fun hL => ⟨hoth _ ?_, rfl⟩⟩
      by_cases hh : B.live b
      · exact .inl (h.inj x ℓ C B c b hC hl hc hb hL hh e)
      · exact .inr hh
  · have get : ∀ y D, (M.set ℓ B') y = some D → ∀ dd, ρ y = some dd → D.live dd → ∃ D0, M y = some D0 ∧ D0.live dd := by
      intro y D hy dd hdd hL
      by_cases e : y = ℓ
      · subst e; rw [Mem.set_eq] at hy; cases hy
        rw [hb] at hdd; cases hdd
        exact ⟨B, hl, hlive hL⟩
      · rw [Mem.set_ne _ _ e] at hy; exact ⟨D, hy, hL⟩
    obtain ⟨D, hD, hDl⟩ := get _ _ h1 _ h3 h5
    obtain ⟨D', hD', hDl'⟩ := get _ _ h2 _ h4 h6
    exact h.inj x x' D D' c c' hD hD' h3 h4 hDl hDl' hne

/-- what a label stood for is forgotten -/
theorem RepM.kill (h : RepM S F ρ M w) {ℓ : Nat} {B : Blk} (hl : M ℓ = some B) : RepM S F ρ (M.set ℓ .dead) w := by
  obtain ⟨b, hb, _⟩ := h.blk _ _ hl
  exact h.upd hl hb (fun _ _ => rfl) (fun hh => hh.elim) trivial

/-- a row becomes known for good -/
theorem RepM.leak (h : RepM S F ρ M w) {ℓ : Nat} {t : TypeId} {α : Type} {d : α} {enc : α → List AV} {l : List α} (hl : M ℓ = some (.row t d enc l)) :
    ∃ S' b, Store.le S S' ∧ ρ ℓ = some b ∧ RepM S' F ρ (M.set ℓ (.gone d enc l)) w ∧ RP S' b.hdr (.sl d enc l) := by
  obtain ⟨b, hb, hlen, hszs, hcase⟩ := h.blk _ _ hl
  rcases hcase with ⟨hn, rfl, hcap⟩ | ⟨hn, hcap, vs, hheap, hsize, hcell, hS, hF⟩
  · have hr : RP S b.hdr (.sl d enc []) := by
      have hlen' : b.len = 0 := by simpa using hlen
      have e : b.hdr = .slice none ([] : List α).length 0 := by simp [Lab.hdr, hn, hlen', hcap]
      rw [e]
      exact .sl d enc [] none 0 0 (fun _ _ => undef) (by simp) (by simp) (by simp) (by simp) (by simp) (by simp)
    exact ⟨S, b, Store.le_refl _, hb, h.upd hl hb (fun _ _ => rfl) (fun hh => hh.elim) ⟨hlen, hr⟩, hr⟩
  · let S' : Store := fun k => if k = b.blk then some (.cells vs t (0, 0)) else S k
    have hle : Store.le S S' := fun k o hk => by
      show (if k = b.blk then _ else _) = _
      split
      · subst_vars; rw [hS] at hk; cases hk
      · exact hk
    have hr : RP S' b.hdr (.sl d enc l) := by
      have e : b.hdr = .slice (some ⟨b.blk, 0, none⟩) l.length b.cap := by simp [Lab.hdr, hn, hlen]
      rw [e]
      refine .sl d enc l _ _ b.sz (fun i j => (vs[i * b.sz + j]?).getD undef) hcap (fun a ha => (hszs a ha).2) (fun a ha => (hszs a ha).1) (fun i j hi hj => ⟨_, rfl, ?_⟩) (by simp) (fun i a j u ha hu => ?_)
      · rw [Addr.add_mk]
        have : i * b.sz + j < vs.size := by
          rw [hsize]
          have : (i + 1) * b.sz ≤ b.cap * b.sz := Nat.mul_le_mul_right _ (by omega)
          rw [Nat.add_mul] at this
          omega
        simp [Store.cell, S', this]
      · obtain ⟨v, hv, hvr⟩ := hcell i a j u ha hu
        rw [hv]
        exact hvr.mono hle
    refine ⟨S', b, hle, hb, ?_, hr⟩
    have hw' := h.upd (B' := .dead) hl hb (w' := w) (fun _ _ => rfl) (fun hh => hh.elim) trivial
    have hS'k : ∀ k, k ≠ b.blk → S' k = S k := fun k hk => by show (if _ then _ else _) = _; rw [if_neg hk]
    have hS'b : S' b.blk = some (.cells vs t (0, 0)) := by show (if _ then _ else _) = _; rw [if_pos rfl]
    refine ⟨fun k o hk => ?_, h.fw, fun k => ?_, fun x c hc => ?_, fun x C hC => ?_, fun x x' C C' c c' h1 h2 h3 h4 h5 h6 hne => ?_⟩
    · by_cases e : k = b.blk
      · subst e; rw [hS'b] at hk; cases hk; exact hheap
      · rw [hS'k _ e] at hk; exact h.sw _ _ hk
    · by_cases e : k = b.blk
      · subst e; exact .inr hF
      · rw [hS'k _ e]; exact h.sf k
    · by_cases e : x = ℓ
      · subst e; rw [Mem.set_eq]; simp
      · rw [Mem.set_ne _ _ e]; exact h.dom _ _ hc
    · by_cases e : x = ℓ
      · subst e; rw [Mem.set_eq] at hC; cases hC; exact ⟨b, hb, hlen, hr⟩
      · rw [Mem.set_ne _ _ e] at hC
        obtain ⟨c, hc, hrC⟩ := h.blk _ _ hC
        exact ⟨c, hc, hrC.keep hle (Env.le_refl _) fun hL => ⟨rfl, hS'k _ (h.inj x ℓ C _ c b hC hl hc hb hL (by exact hn) e)⟩⟩
    · have get : ∀ y D, (M.set ℓ (.gone d enc l)) y = some D → ∀ dd, D.live dd → M y = some D := by
        intro y D hy dd hL
        by_cases e : y = ℓ
        · subst e; rw [Mem.set_eq] at hy; cases hy; exact hL.elim
        · rw [Mem.set_ne _ _ e] at hy; exact hy
      exact h.inj x x' C C' c c' (get _ _ h1 _ h5) (get _ _ h2 _ h6) h3 h4 h5 h6 hne

/-- drawing an answer changes nothing that is known -/
theorem RepM.drawn (h : RepM S F ρ M w) (n : Nat) : RepM S F ρ M { w with drawn := n } :=
  ⟨h.sw, h.fw, h.sf, h.dom, fun ℓ B hB => let ⟨b, hb, hr⟩ := h.blk ℓ B hB; ⟨b, hb, hr.keep (Store.le_refl _) (Env.le_refl _) fun _ => ⟨rfl, rfl⟩⟩, h.inj⟩

theorem Wle.setRow {g : Nat} {cur vs : Array Value} {t : TypeId} (hg : w.heap[g]? = some (.cells cur t (0, 0))) : Wle w (w.setRow g vs) := by
  refine ⟨rfl, rfl, rfl, by simp, fun a => ?_⟩
  unfold World.frozen?
  by_cases h : a.block = g
  · rw [h, setRow_heap w g cur vs t _ hg, hg]
  · rw [setRow_other w g a.block vs h]

end
end Go.Proofs.Ytihligeggkpolaa
