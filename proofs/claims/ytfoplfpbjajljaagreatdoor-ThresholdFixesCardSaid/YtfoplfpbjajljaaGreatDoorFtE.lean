import Derived.Test.YtfoplfpbjajljaaGreatDoorP1
import Derived.Test.YtfoplfpbjajljaaGreatDoorFuA
set_option linter.unusedVariables false
set_option linter.unusedSimpArgs false
namespace Go.Proofs.YtfoplfpbjajljaaGreatDoor
set_option maxRecDepth 100000
set_option maxHeartbeats 8000000
def coB (c : Co) (B : Int) : Prop := ∀ v, -B ≤ c v ∧ c v ≤ B
theorem coB_z : coB zC 0 := fun _ => ⟨by simp [zC], by simp [zC]⟩
theorem coB_mono {c : Co} {B B' : Int} (h : coB c B) (hb : B ≤ B') : coB c B' := fun v => by have := h v; omega
theorem mul_ab {a b A B : Int} (ha : -A ≤ a ∧ a ≤ A) (hb : -B ≤ b ∧ b ≤ B) : -(A * B) ≤ a * b ∧ a * b ≤ A * B := by
 have hA : 0 ≤ A := by omega
 have hB : 0 ≤ B := by omega
 have h1 : (a * b).natAbs ≤ (A * B).natAbs := by
  rw [Int.natAbs_mul, Int.natAbs_mul]
  exact Nat.mul_le_mul (by omega) (by omega)
 have h2 : 0 ≤ A * B := Int.mul_nonneg hA hB
 omega
theorem coB_sc {c d : Co} {k B K D : Int} (hc : coB c B) (hd : coB d D) (hk : -K ≤ k ∧ k ≤ K) : coB (scC c k d) (B + K * D) := fun v => by
 have a := hc v
 have b := mul_ab hk (hd v)
 unfold scC
 omega
theorem coB_add {c : Co} {v0 : Vb} {k B K : Int} (hc : coB c B) (hk : -K ≤ k ∧ k ≤ K) (hK : 0 ≤ K) : coB (addC c v0 k) (B + K) := fun v => by
 have a := hc v
 unfold addC
 split <;> omega
theorem coB_lin {l : Lin} (h : bndB l) : coB (linC l) 100 := fun v => by
 obtain ⟨_, h2, h3, h4⟩ := h
 unfold facB at h2 h3 h4
 unfold linC
 (repeat' split) <;> omega
theorem coB_aft (rs : List Rul) (start fire state : Int) (j i : Nat) : coB (aftS rs start fire state j i) 2 := fun v => by have := aft_b rs start fire state j i v; omega
theorem coB_snt (rs : List Rul) (fire message : Int) (j i : Nat) : coB (sntS rs fire message j i) 1 := fun v => by have := snt_b rs fire message j i v; omega
theorem coB_st (kind : Int) (n : Nat) : coB (stC kind n) 1 := fun v => by unfold stC; split <;> omega
theorem rule_guard {p : Pro} {i : Nat} {r : Rul} (h : ruleE p i r = 0) {g : Thr} (hg : g ∈ r.guards) : (0 ≤ g.message ∧ g.message < p.messages.length) ∧ (1 ≤ g.coef ∧ g.coef ≤ 100) ∧ bndB g.bound := by
 obtain ⟨_, _, h3, _, _, h6⟩ := rule_parts h
 by_cases k : r.kind = 1
 ·unfold kindE at h6
  rw [if_pos k] at h6
  have hz := orl_zero h6 (guardsE p.messages.length r.guards) (by simp)
  unfold guardsE at hz
  split at hz
  ·omega
  ·rename_i h0
   have hg0 := orl_zero (show orL (r.guards.map (gE p.messages.length)) = 0 by omega) _ (List.mem_map.2 ⟨g, hg, rfl⟩)
   have hg1 := orl_zero hg0
   have a := hg1 (indE g.message p.messages.length) (by simp)
   have b := hg1 (coefE g.coef) (by simp)
   have c := hg1 (bndE g.bound) (by simp)
   unfold indE at a
   unfold coefE at b
   unfold bndE at c
   refine ⟨?_, ?_, ?_⟩
   ·split at a <;> omega
   ·split at b <;> omega
   ·split at c
    ·assumption
    ·omega
 ·have : r.guards.length = 0 := by unfold surB at h3; omega
  rw [List.length_eq_zero_iff] at this
  rw [this] at hg
  cases hg
theorem addT_mem {acc : List Thr} {g x : Thr} (h : x ∈ addT acc g) : x ∈ acc ∨ x = g := by
 unfold addT at h
 split at h
 ·exact .inl h
 ·rcases List.mem_append.1 h with h | h
  ·exact .inl h
  ·exact .inr (List.mem_singleton.1 h)
theorem foldT_mem {gs : List Thr} {x : Thr} : ∀ {acc : List Thr}, x ∈ gs.foldl addT acc → x ∈ acc ∨ x ∈ gs := by
 induction gs with
 |nil => intro acc h; exact .inl h
 |cons g gs ih =>
  intro acc h
  rw [List.foldl_cons] at h
  rcases ih h with h | h
  ·rcases addT_mem h with h | h
   ·exact .inl h
   ·exact .inr (h ▸ List.mem_cons_self)
  ·exact .inr (List.mem_cons_of_mem _ h)
theorem thrL_mem {rs : List Rul} {g : Thr} (h : g ∈ thrL rs) : ∃ i, i < rs.length ∧ g ∈ (rs.getD i rul0).guards := by
 unfold thrL at h
 rcases foldT_mem h with h | h
 ·cases h
 ·obtain ⟨r, hr, hg⟩ := List.mem_flatMap.1 h
  obtain ⟨i, hi, rfl⟩ := List.getElem_of_mem hr
  exact ⟨i, hi, by rw [getD_elem rul0 hi]; exact hg⟩
theorem thr_ok {p : Pro} (h : validE p = 0) {g : Thr} (hg : g ∈ thrL p.rules) : (0 ≤ g.message ∧ g.message < p.messages.length) ∧ (1 ≤ g.coef ∧ g.coef ≤ 100) ∧ bndB g.bound := by
 obtain ⟨i, hi, hm⟩ := thrL_mem hg
 exact rule_guard ((vld_of h).rul i hi) hm
def rwB (r : Rw) (B : Int) : Prop := coB r.1 B ∧ -B ≤ r.2 ∧ r.2 ≤ B
theorem parW_b {l : Lin} (h : bndB l) : rwB (parW l) 1000 := ⟨coB_mono (coB_lin h) (by omega), by have := h.1; unfold facB at this; show -1000 ≤ l.c ∧ l.c ≤ 1000; omega⟩
theorem staW_b {kind k : Int} {n : Nat} {l : Lin} (h : bndB l) (hk : k = 1 ∨ k = -1) : rwB (staW kind n k l) 1000 := by
 refine ⟨coB_mono (coB_sc (coB_sc coB_z (coB_st kind n) (K := 1) (by omega)) (coB_lin h) (K := 1) (by omega)) (by omega), ?_⟩
 have := h.1; unfold facB at this
 show -1000 ≤ -k * l.c ∧ -k * l.c ≤ 1000
 rcases hk with rfl | rfl
 ·rw [Int.neg_mul, Int.one_mul]; omega
 ·rw [Int.neg_neg, Int.one_mul]; omega
theorem guaW_b {p : Pro} {g : Thr} {j : Nat} (h : (1 ≤ g.coef ∧ g.coef ≤ 100) ∧ bndB g.bound) : rwB (guaW p g j) 1000 := by
 have h1 := coB_sc (coB_sc coB_z (coB_snt p.rules 5 g.message j 0) (K := 100) (k := g.coef) (by omega)) (coB_snt p.rules 6 g.message j 0) (K := 100) (k := g.coef) (by omega)
 refine ⟨?_, ?_⟩
 ·unfold guaW
  dsimp only
  split
  ·exact coB_mono (coB_sc (coB_add h1 (K := 100) (by omega) (by omega)) (coB_lin h.2) (K := 1) (by omega)) (by omega)
  ·exact coB_mono (coB_sc h1 (coB_lin h.2) (K := 1) (by omega)) (by omega)
 ·have := h.2.1; unfold facB at this
  show -1000 ≤ -g.bound.c ∧ -g.bound.c ≤ 1000
  omega
theorem aftW_b (p : Pro) (start fire : Int) (x j : Nat) : rwB (aftW p start fire x j) 1000 :=
 ⟨coB_mono (coB_sc coB_z (coB_aft p.rules start fire x (j + 1) 0) (K := 1) (by omega)) (by omega), by show (-1000 : Int) ≤ 0 ∧ (0 : Int) ≤ 1000; omega⟩
theorem amgF_b (p : Pro) (seg : Nat) : ∀ (l : List Int) (c : Co) (B : Int), coB c B → coB (l.foldl (fun c x => scC c 1 (aftS p.rules 3 5 x (seg + 1) 0)) c) (B + 2 * l.length)
 |[], c, B, h => by simpa using h
 |x :: l, c, B, h => by
  rw [List.foldl_cons]
  have := amgF_b p seg l _ _ (coB_sc (k := 1) h (coB_aft p.rules 3 5 x (seg + 1) 0) (K := 1) (by omega))
  refine coB_mono this ?_
  simp only [List.length_cons]
  omega
theorem amgW_b {p : Pro} {seg : Nat} {states : List Int} {least : Int} (h : states.length ≤ 6) (hl : 0 ≤ least ∧ least ≤ 3) : rwB (amgW p seg states least) 1000 := by
 refine ⟨coB_mono (amgF_b p seg states zC 0 coB_z) (by omega), ?_⟩
 show -1000 ≤ -least ∧ -least ≤ 1000
 omega
theorem idlW_b {p : Pro} {seg : Nat} {r : Rul} {ch : Int} (hg : ∀ g ∈ r.guards, (1 ≤ g.coef ∧ g.coef ≤ 100) ∧ bndB g.bound) (hc : 0 ≤ ch ∧ ch ≤ r.guards.length) : rwB (idlW p seg r ch) 1000 := by
 unfold idlW
 split
 ·exact ⟨coB_mono (coB_sc coB_z (coB_aft p.rules 3 5 r.src (seg + 1) 0) (K := 1) (by omega)) (by omega), by dsimp only; omega⟩
 ·have hm := hg _ (mem_getD (l := r.guards) (k := (ch - 1).toNat) thr0 (by omega))
  generalize r.guards.getD (ch - 1).toNat thr0 = g at hm
  have h1 := coB_sc coB_z (coB_snt p.rules 5 g.message (seg + 1) 0) (K := 100) (k := -g.coef) (by omega)
  refine ⟨?_, ?_⟩
  ·dsimp only
   split
   ·exact coB_mono (coB_sc (coB_sc h1 (coB_snt p.rules 6 g.message (seg + 1) 0) (K := 100) (k := -g.coef) (by omega)) (coB_lin hm.2) (K := 1) (by omega)) (by omega)
   ·exact coB_mono (coB_sc h1 (coB_lin hm.2) (K := 1) (by omega)) (by omega)
  ·have := hm.2.1; unfold facB at this
   dsimp only
   omega
theorem parL_b {p : Pro} (h : validE p = 0) : ∀ l ∈ parL p, bndB l := by
 intro l hl
 have hr := (vld_of h).res
 have f : ∀ a b c d : Int, -100 ≤ a ∧ a ≤ 100 → -100 ≤ b ∧ b ≤ 100 → -100 ≤ c ∧ c ≤ 100 → -100 ≤ d ∧ d ≤ 100 → bndB ⟨a, b, c, d⟩ := fun a b c d h1 h2 h3 h4 => ⟨h1, h2, h3, h4⟩
 unfold parL at hl
 rcases List.mem_append.1 hl with hl | hl
 ·rcases List.mem_append.1 hl with hl | hl
  ·simp only [List.mem_cons, List.not_mem_nil, or_false] at hl
   rcases hl with rfl | rfl | rfl <;> exact f _ _ _ _ (by omega) (by omega) (by omega) (by omega)
  ·split at hl
   ·simp only [List.mem_cons, List.not_mem_nil, or_false] at hl
    rcases hl with rfl | rfl <;> exact f _ _ _ _ (by omega) (by omega) (by omega) (by omega)
   ·simp at hl
 ·obtain ⟨i, hi, e⟩ := List.getElem_of_mem hl
  have := hr i hi
  rwa [getD_elem lin0 hi, e] at this
theorem staL_b {p : Pro} : ∀ r ∈ staL p, rwB r 1000 := by
 intro r hr
 have f : ∀ a b c d : Int, -100 ≤ a ∧ a ≤ 100 → -100 ≤ b ∧ b ≤ 100 → -100 ≤ c ∧ c ≤ 100 → -100 ≤ d ∧ d ≤ 100 → bndB ⟨a, b, c, d⟩ := fun a b c d h1 h2 h3 h4 => ⟨h1, h2, h3, h4⟩
 unfold staL at hr
 rcases List.mem_append.1 hr with hr | hr
 ·simp only [List.mem_cons, List.not_mem_nil, or_false] at hr
  rcases hr with rfl | rfl
  ·exact staW_b (f _ _ _ _ (by omega) (by omega) (by omega) (by omega)) (.inl rfl)
  ·exact staW_b (f _ _ _ _ (by omega) (by omega) (by omega) (by omega)) (.inr rfl)
 ·split at hr
  ·simp only [List.mem_cons, List.not_mem_nil, or_false] at hr
   rcases hr with rfl | rfl
   ·exact staW_b (f _ _ _ _ (by omega) (by omega) (by omega) (by omega)) (.inl rfl)
   ·exact staW_b (f _ _ _ _ (by omega) (by omega) (by omega) (by omega)) (.inr rfl)
  ·simp at hr
theorem segL_b {p : Pro} (h : validE p = 0) {sch : List Int} (hs : schB (thrL p.rules).length sch) {j : Nat} (hj : j ≤ sch.length) : ∀ r ∈ segL p sch j, rwB r 1000 := by
 intro r hr
 unfold segL at hr
 rcases List.mem_append.1 hr with hr | hr
 ·rcases List.mem_append.1 hr with hr | hr
  ·split at hr
   ·rename_i h0
    simp only [List.mem_cons, List.not_mem_nil, or_false] at hr
    subst hr
    have hi := (hs (j - 1) (by omega)).1
    exact guaW_b (thr_ok h (mem_getD (l := thrL p.rules) thr0 (by omega))).2
   ·simp at hr
  ·obtain ⟨x, _, rfl⟩ := List.mem_map.1 hr
   exact aftW_b p 3 5 x j
 ·split at hr
  ·obtain ⟨x, _, rfl⟩ := List.mem_map.1 hr
   exact aftW_b p 4 6 x j
  ·simp at hr
theorem outL_len (p : Pro) (q : Prp) : (outL p q).length ≤ p.states.length := by
 unfold outL
 have := List.length_filter_le (fun x => decide (x ∉ q.goal)) ((List.range p.states.length).map fun x : Nat => (x : Int))
 simp only [List.length_map, List.length_range] at this
 omega
theorem vioL_b {p : Pro} {q : Prp} (h : propE p q = 0) (seg number : Nat) : ∀ r ∈ vioL p q seg number, rwB r 1000 := by
 intro r hr
 have v := vlq_of h
 have w := vld_of v.vld
 unfold vioL at hr
 split at hr
 ·rename_i hk
  obtain ⟨c, hc, rfl⟩ := List.mem_map.1 hr
  obtain ⟨i, hi, e⟩ := List.getElem_of_mem hc
  have hp := cnt_parts v hk hi
  rw [getD_elem cnt0 hi, e] at hp
  have := set_len hp.1
  have := w.len
  exact amgW_b (by omega) (by omega)
 ·rcases List.mem_cons.1 hr with rfl | hr
  ·have := outL_len p q
   have := w.len
   exact amgW_b (by omega) (by omega)
  ·obtain ⟨i, hi, rfl⟩ := List.mem_map.1 hr
   have hi := List.mem_range.1 hi
   refine idlW_b (fun g hg => (rule_guard (w.rul i hi) hg).2) ?_
   rw [chL_get hi]
   have := chD_le p.rules number i
   omega
theorem sysL_b {p : Pro} {q : Prp} (h : propE p q = 0) {sch : List Int} (hs : schB (thrL p.rules).length sch) (number : Int) : ∀ r ∈ sysL p q sch number, rwB r 1000 := by
 intro r hr
 have hv := (vlq_of h).vld
 unfold sysL at hr
 rcases List.mem_append.1 hr with hr | hr
 ·rcases List.mem_append.1 hr with hr | hr
  ·rcases List.mem_append.1 hr with hr | hr
   ·obtain ⟨l, hl, rfl⟩ := List.mem_map.1 hr
    exact parW_b (parL_b hv l hl)
   ·exact staL_b r hr
  ·obtain ⟨j, hj, hr⟩ := List.mem_flatMap.1 hr
   have := List.mem_range.1 hj
   exact segL_b hv hs (by omega) r hr
 ·split at hr
  ·exact vioL_b h _ _ r hr
  ·simp at hr
theorem flat_le {α β : Type} (f : α → List β) (B : Nat) : ∀ l : List α, (∀ a ∈ l, (f a).length ≤ B) → (l.flatMap f).length ≤ B * l.length
 |[], _ => by simp
 |a :: l, h => by
  have ih := flat_le f B l fun x hx => h x (List.mem_cons_of_mem _ hx)
  have := h a List.mem_cons_self
  rw [List.flatMap_cons, List.length_append, List.length_cons, Nat.mul_add]
  omega
theorem sysL_len {p : Pro} {q : Prp} (h : propE p q = 0) {sch : List Int} (hs : schB (thrL p.rules).length sch) (number : Int) : (sysL p q sch number).length ≤ 100 := by
 have v := vlq_of h
 have w := vld_of v.vld
 have l1 := w.len
 have l2 := w.thr
 have l3 := sch_len hs
 have a : (parL p).length ≤ 9 := by unfold parL; rw [List.length_append, List.length_append]; split <;> simp <;> omega
 have b : (staL p).length ≤ 4 := by unfold staL; rw [List.length_append]; split <;> simp
 have c : ((List.range (sch.length + 1)).flatMap (segL p sch)).length ≤ 13 * (sch.length + 1) := by
  have := flat_le (segL p sch) 13 (List.range (sch.length + 1)) fun j _ => by
   unfold segL
   rw [List.length_append, List.length_append]
   split <;> split <;> simp <;> omega
  simpa using this
 have d : (if 0 ≤ number then vioL p q sch.length number.toNat else []).length ≤ 9 := by
  split
  ·unfold vioL
   split
   ·rename_i hk; have := (v.bad hk).1; simp; omega
   ·simp; omega
  ·simp
 unfold sysL
 rw [List.length_append, List.length_append, List.length_append, List.length_map]
 omega
def sysB (p : Pro) (q : Prp) (sch : List Int) (number : Int) : LSys := ⟨((varL p q sch).length : Int), rowsB p q sch number⟩
theorem rowsB_get {p : Pro} {q : Prp} {sch : List Int} {number : Int} {j : Nat} (hj : j < (rowsB p q sch number).length) : ∃ r ∈ sysL p q sch number, (rowsB p q sch number).getD j row0 = rwL (varL p q sch) r := by
 have hj' : j < (sysL p q sch number).length := by simpa [rowsB] using hj
 refine ⟨(sysL p q sch number)[j], List.getElem_mem _, ?_⟩
 rw [getD_elem row0 hj]
 simp [rowsB]
theorem sysB_ok {p : Pro} {q : Prp} (h : propE p q = 0) {sch : List Int} (hs : schB (thrL p.rules).length sch) (number : Int) : sysE (sysB p q sch number) = 0 := by
 refine sysE_mk ?_ (fun j hj => ?_) ?_ fun j hj => ?_
 ·have := varL_len h hs
  show 0 ≤ ((varL p q sch).length : Int) ∧ ((varL p q sch).length : Int) ≤ 96
  omega
 ·obtain ⟨r, _, e⟩ := rowsB_get hj
  show (((rowsB p q sch number).getD j row0).coef.length : Int) = ((varL p q sch).length : Int)
  rw [e]; simp [rwL]
 ·have := sysL_len h hs number
  show (rowsB p q sch number).length ≤ 192
  unfold rowsB
  rw [List.length_map]
  omega
 ·obtain ⟨r, hr, e⟩ := rowsB_get hj
  show smlB ((rowsB p q sch number).getD j row0)
  rw [e]
  obtain ⟨h1, h2⟩ := sysL_b h hs number r hr
  refine ⟨fun i hi => ?_, ?_⟩
  ·have hi' : i < (varL p q sch).length := by simpa [rwL] using hi
   have : (rwL (varL p q sch) r).coef.getD i 0 = r.1 ((varL p q sch).getD i vb0) := row_get r.1 hi'
   rw [this]
   have := h1 ((varL p q sch).getD i vb0)
   unfold numB; omega
  ·show numB r.2
   unfold numB; omega
end Go.Proofs.YtfoplfpbjajljaaGreatDoor
