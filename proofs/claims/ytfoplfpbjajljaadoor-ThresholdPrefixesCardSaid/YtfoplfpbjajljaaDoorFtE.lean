import Derived.Test.YtfoplfpbjajljaaDoorFtD
import Derived.Test.YtfoplfpbjajljaaDoorFuA
set_option linter.unusedVariables false
set_option linter.unusedSimpArgs false
namespace Go.Proofs.YtfoplfpbjajljaaDoor
set_option maxRecDepth 100000
set_option maxHeartbeats 8000000
def coB (c : Co) (B : Int) : Prop := ∀ v, -B ≤ c v ∧ c v ≤ B
theorem coB_z : coB zC 0 := fun _ => ⟨by simp [zC], by simp [zC]⟩
theorem coB_mono {c : Co} {B B' : Int} (h : coB c B) (hb : B ≤ B') : coB c B' := fun v => by have := h v; omega
theorem mul_ab {a b A B : Int} (ha : -A ≤ a ∧ a ≤ A) (hb : -B ≤ b ∧ b ≤ B) : -(A * B) ≤ a * b ∧ a * b ≤ A * B := by
 have hA : 0 ≤ A := by omega
 have hB : 0 ≤ B := by omega
 have h1 : (a * b).natAbs ≤ (A * B).natAbs := by
  rw [Int.natAbs_mul, Int.natAbs_mul]
  exact Nat.mul_le_mul (by omega) (by omega)
 have h2 : 0 ≤ A * B := Int.mul_nonneg hA hB
 omega
theorem coB_sc {c d : Co} {k B K D : Int} (hc : coB c B) (hd : coB d D) (hk : -K ≤ k ∧ k ≤ K) : coB (scC c k d) (B + K * D) := fun v => by
 have a := hc v
 have b := mul_ab hk (hd v)
 unfold scC
 omega
theorem coB_add {c : Co} {v0 : Vb} {k B K : Int} (hc : coB c B) (hk : -K ≤ k ∧ k ≤ K) (hK : 0 ≤ K) : coB (addC c v0 k) (B + K) := fun v => by
 have a := hc v
 unfold addC
 split <;> omega
theorem coB_lin {l : Lin} (h : bndB l) : coB (linC l) 100 := fun v => by
 obtain ⟨_, h2, h3, h4⟩ := h
 unfold facB at h2 h3 h4
 unfold linC
 (repeat' split) <;> omega
theorem coB_aft (rs : List Rul) (start fire state : Int) (j i : Nat) : coB (aftS rs start fire state j i) 2 := fun v => by have := aft_b rs start fire state j i v; omega
theorem coB_snt (rs : List Rul) (fire message : Int) (j i : Nat) : coB (sntS rs fire message j i) 1 := fun v => by have := snt_b rs fire message j i v; omega
theorem coB_st (kind : Int) (n : Nat) : coB (stC kind n) 1 := fun v => by unfold stC; split <;> omega
theorem rule_guard {p : Pro} {i : Nat} {r : Rul} (h : ruleE p i r = 0) {g : Thr} (hg : g ∈ r.guards) : (0 ≤ g.message ∧ g.message < p.messages.length) ∧ (1 ≤ g.coef ∧ g.coef ≤ 100) ∧ bndB g.bound := by
 obtain ⟨_, _, h3, _, _, h6⟩ := rule_parts h
 by_cases k : r.kind = 1
 ·unfold kindE at h6
  rw [if_pos k] at h6
  have hz := orl_zero h6 (guardsE p.messages.length r.guards) (by simp)
  unfold guardsE at hz
  split at hz
  ·omega
  ·rename_i h0
   have hg0 := orl_zero (show orL (r.guards.map (gE p.messages.length)) = 0 by omega) _ (List.mem_map.2 ⟨g, hg, rfl⟩)
   have hg1 := orl_zero hg0
   have a := hg1 (indE g.message p.messages.length) (by simp)
   have b := hg1 (coefE g.coef) (by simp)
   have c := hg1 (bndE g.bound) (by simp)
   unfold indE at a
   unfold coefE at b
   unfold bndE at c
   refine ⟨?_, ?_, ?_⟩
   ·split at a <;> omega
   ·split at b <;> omega
   ·split at c
    ·assumption
    ·omega
 ·have : r.guards.length = 0 := by unfold surB at h3; omega
  rw [List.length_eq_zero_iff] at this
  rw [this] at hg
  cases hg
theorem addT_mem {acc : List Thr} {g x : Thr} (h : x ∈ addT acc g) : x ∈ acc ∨ x = g := by
 unfold addT at h
 split at h
 ·exact .inl h
 ·rcases List.mem_append.1 h with h | h
  ·exact .inl h
  ·exact .inr (List.mem_singleton.1 h)
theorem foldT_mem {gs : List Thr} {x : Thr} : ∀ {acc : List Thr}, x ∈ gs.foldl addT acc → x ∈ acc ∨ x ∈ gs := by
 induction gs with
 |nil => intro acc h; exact .inl h
 |cons g gs ih =>
  intro acc h
  rw [List.foldl_cons] at h
  rcases ih h with h | h
  ·rcases addT_mem h with h | h
   ·exact .inl h
   ·exact .inr (h ▸ List.mem_cons_self)
  ·exact .inr (List.mem_cons_of_mem _ h)
theorem thrL_mem {rs : List Rul} {g : Thr} (h : g ∈ thrL rs) : ∃ i, i < rs.length ∧ g ∈ (rs.getD i rul0).guards := by
 unfold thrL at h
 rcases foldT_mem h with h | h
 ·cases h
 ·obtain ⟨r, hr, hg⟩ := List.mem_flatMap.1 h
  obtain ⟨i, hi, rfl⟩ := List.getElem_of_mem hr
  exact ⟨i, hi, by rw [getD_elem rul0 hi]; exact hg⟩
theorem thr_ok {p : Pro} (h : validE p = 0) {g : Thr} (hg : g ∈ thrL p.rules) : (0 ≤ g.message ∧ g.message < p.messages.length) ∧ (1 ≤ g.coef ∧ g.coef ≤ 100) ∧ bndB g.bound := by
 obtain ⟨i, hi, hm⟩ := thrL_mem hg
 exact rule_guard ((vld_of h).rul i hi) hm
def rwB (r : Rw) (B : Int) : Prop := coB r.1 B ∧ -B ≤ r.2 ∧ r.2 ≤ B
theorem parW_b {l : Lin} (h : bndB l) : rwB (parW l) 1000 := ⟨coB_mono (coB_lin h) (by omega), by have := h.1; unfold facB at this; show -1000 ≤ l.c ∧ l.c ≤ 1000; omega⟩
theorem staW_b {kind k : Int} {n : Nat} {l : Lin} (h : bndB l) (hk : k = 1 ∨ k = -1) : rwB (staW kind n k l) 1000 := by
 refine ⟨coB_mono (coB_sc (coB_sc coB_z (coB_st kind n) (K := 1) (by omega)) (coB_lin h) (K := 1) (by omega)) (by omega), ?_⟩
 have := h.1; unfold facB at this
 show -1000 ≤ -k * l.c ∧ -k * l.c ≤ 1000
 rcases hk with rfl | rfl
 ·rw [Int.neg_mul, Int.one_mul]; omega
 ·rw [Int.neg_neg, Int.one_mul]; omega
theorem guaW_b {p : Pro} {g : Thr} {j : Nat} (h : (1 ≤ g.coef ∧ g.coef ≤ 100) ∧ bndB g.bound) : rwB (guaW p g j) 1000 := by
 have h1 := coB_sc (coB_sc coB_z (coB_snt p.rules 5 g.message j 0) (K := 100) (k := g.coef) (by omega)) (coB_snt p.rules 6 g.message j 0) (K := 100) (k := g.coef) (by omega)
 refine ⟨?_, ?_⟩
 ·unfold guaW
  dsimp only
  split
  ·exact coB_mono (coB_sc (coB_add h1 (K := 100) (by omega) (by omega)) (coB_lin h.2) (K := 1) (by omega)) (by omega)
  ·exact coB_mono (coB_sc h1 (coB_lin h.2) (K := 1) (by omega)) (by omega)
 ·have := h.2.1; unfold facB at this
  show -1000 ≤ -g.bound.c ∧ -g.bound.c ≤ 1000
  omega
theorem aftW_b (p : Pro) (start fire : Int) (x j : Nat) : rwB (aftW p start fire x j) 1000 :=
 ⟨coB_mono (coB_sc coB_z (coB_aft p.rules start fire x (j + 1) 0) (K := 1) (by omega)) (by omega), by show (-1000 : Int) ≤ 0 ∧ (0 : Int) ≤ 1000; omega⟩
theorem amgF_b (p : Pro) (seg : Nat) : ∀ (l : List Int) (c : Co) (B : Int), coB c B → coB (l.foldl (fun c x => scC c 1 (aftS p.rules 3 5 x (seg + 1) 0)) c) (B + 2 * l.length)
 |[], c, B, h => by simpa using h
 |x :: l, c, B, h => by
  rw [List.foldl_cons]
  have := amgF_b p seg l _ _ (coB_sc (k := 1) h (coB_aft p.rules 3 5 x (seg + 1) 0) (K := 1) (by omega))
  refine coB_mono this ?_
  simp only [List.length_cons]
  omega
theorem amgW_b {p : Pro} {seg : Nat} {states : List Int} {least : Int} (h : states.length ≤ 6) (hl : 0 ≤ least ∧ least ≤ 3) : rwB (amgW p seg states least) 1000 := by
 refine ⟨coB_mono (amgF_b p seg states zC 0 coB_z) (by omega), ?_⟩
 show -1000 ≤ -least ∧ -least ≤ 1000
 omega
theorem idlW_b {p : Pro} {seg : Nat} {r : Rul} {ch : Int} (hg : ∀ g ∈ r.guards, (1 ≤ g.coef ∧ g.coef ≤ 100) ∧ bndB g.bound) (hc : 0 ≤ ch ∧ ch ≤ r.guards.length) : rwB (idlW p seg r ch) 1000 := by
 unfold idlW
 split
 ·exact ⟨coB_mono (coB_sc coB_z (coB_aft p.rules 3 5 r.src (seg + 1) 0) (K := 1) (by omega)) (by omega), by dsimp only; omega⟩
 ·have hm := hg _ (mem_getD (l := r.guards) (k := (ch - 1).toNat) thr0 (by omega))
  generalize r.guards.getD (ch - 1).toNat thr0 = g at hm
  have h1 := coB_sc coB_z (coB_snt p.rules 5 g.message (seg + 1) 0) (K := 100) (k := -g.coef) (by omega)
  refine ⟨?_, ?_⟩
  ·dsimp only
   split
   ·exact coB_mono (coB_sc (coB_sc h1 (coB_snt p.rules 6 g.message (seg + 1) 0) (K := 100) (k := -g.coef) (by omega)) (coB_lin hm.2) (K := 1) (by omega)) (by omega)
   ·exact coB_mono (coB_sc h1 (coB_lin hm.2) (K := 1) (by omega)) (by omega)
  ·have := hm.2.1; unfold facB at this
   dsimp only
   omega
theorem parL_b {p : Pro} (h : validE p = 0) : ∀ l ∈ parL p, bndB l := by
 intro l hl
 have hr := (vld_of h).res
 have f : ∀ a b c d : Int, -100 ≤ a ∧ a ≤ 100 → -100 ≤ b ∧ b ≤ 100 → -100 ≤ c ∧ c ≤ 100 → -100 ≤ d ∧ d ≤ 100 → bndB ⟨a, b, c, d⟩ := fun a b c d h1 h2 h3 h4 => ⟨h1, h2, h3, h4⟩
 unfold parL at hl
 rcases List.mem_append.1 hl with hl | hl
 ·rcases List.mem_append.1 hl with hl | hl
  ·simp only [List.mem_cons, List.not_mem_nil, or_false] at hl
   rcases hl with rfl | rfl | rfl <;> exact f _ _ _ _ (by omega) (by omega) (by omega) (by omega)
  ·split at hl
   ·simp only [List.mem_cons, List.not_mem_nil, or_false] at hl
    rcases hl with rfl | rfl <;> exact f _ _ _ _ (by omega) (by omega) (by omega) (by omega)
   ·simp at hl
 ·obtain ⟨i, hi, e⟩ := List.getElem_of_mem hl
  have := hr i hi
  rwa [getD_elem lin0 hi, e] at this
theorem staL_b {p : Pro} : ∀ r ∈ staL p, rwB r 1000 := by
 intro r hr
 have f : ∀ a b c d : Int, -100 ≤ a ∧ a ≤ 100 → -100 ≤ b ∧ b ≤ 100 → -100 ≤ c ∧ c ≤ 100 → -100 ≤ d ∧ d ≤ 100 → bndB ⟨a, b, c, d⟩ := fun a b c d h1 h2 h3 h4 => ⟨h1, h2, h3, h4⟩
 unfold staL at hr
 rcases List.mem_append.1 hr with hr | hr
 ·simp only [List.mem_cons, List.not_mem_nil, or_false] at hr
  rcases hr with rfl | rfl
  ·exact staW_b (f _ _ _ _ (by omega) (by omega) (by omega) (by omega)) (.inl rfl)
  ·exact staW_b (f _ _ _ _ (by omega) (by omega) (by omega) (by omega)) (.inr rfl)
 ·split at hr
  ·simp only [List.mem_cons, List.not_mem_nil, or_false] at hr
   rcases hr with rfl | rfl
   ·exact staW_b (f _ _ _ _ (by omega) (by omega) (by omega) (by omega)) (.inl rfl)
   ·exact staW_b (f _ _ _ _ (by omega) (by omega) (by omega) (by omega)) (.inr rfl)
  ·simp at hr
theorem segL_b {p : Pro} (h : validE p = 0) {sch : List Int} (hs : schB (thrL p.rules).length sch) {j : Nat} (hj : j ≤ sch.length) : ∀ r ∈ segL p sch j, rwB r 1000 := by
 intro r hr
 unfold segL at hr
 rcases List.mem_append.1 hr with hr | hr
 ·rcases List.mem_append.1 hr with hr | hr
  ·split at hr
   ·rename_i h0
    simp only [List.mem_cons, List.not_mem_nil, or_false] at hr
    subst hr
    have hi := (hs (j - 1) (by omega)).1
    exact guaW_b (thr_ok h (mem_getD (l := thrL p.rules) thr0 (by omega))).2
   ·simp at hr
  ·obtain ⟨x, _, rfl⟩ := List.mem_map.1 hr
   exact aftW_b p 3 5 x j
 ·split at hr
  ·obtain ⟨x, _, rfl⟩ := List.mem_map.1 hr
   exact aftW_b p 4 6 x j
  ·simp at hr
theorem outL_len (p : Pro) (q : Prp) : (outL p q).length ≤ p.states.length := by
 unfold outL
 have := List.length_filter_le (fun x => decide (x ∉ q.goal)) ((List.range p.states.length).map fun x : Nat => (x : Int))
 simp only [List.length_map, List.length_range] at this
 omega
theorem vioL_b {p : Pro} {q : Prp} (h : propE p q = 0) (seg number : Nat) : ∀ r ∈ vioL p q seg number, rwB r 1000 := by
 intro r hr
 have v := vlq_of h
 have w := vld_of v.vld
 unfold vioL at hr
 split at hr
 ·rename_i hk
  obtain ⟨c, hc, rfl⟩ := List.mem_map.1 hr
  obtain ⟨i, hi, e⟩ := List.getElem_of_mem hc
  have hp := cnt_parts v hk hi
  rw [getD_elem cnt0 hi, e] at hp
  have := set_len hp.1
  have := w.len
  exact amgW_b (by omega) (by omega)
 ·rcases List.mem_cons.1 hr with rfl | hr
  ·have := outL_len p q
   have := w.len
   exact amgW_b (by omega) (by omega)
  ·obtain ⟨i, hi, rfl⟩ := List.mem_map.1 hr
   have hi := List.mem_range.1 hi
   refine idlW_b (fun g hg => (rule_guard (w.rul i hi) hg).2) ?_
   rw [chL_get hi]
   have := chD_le p.rules number i
   omega
theorem sysL_b {p : Pro} {q : Prp} (h : propE p q = 0) {sch : List Int} (hs : schB (thrL p.rules).length sch) (number : Int) : ∀ r ∈ sysL p q sch number, rwB r 1000 := by
 intro r hr
 have hv := (vlq_of h).vld
 unfold sysL at hr
 rcases List.mem_append.1 hr with hr | hr
 ·rcases List.mem_append.1 hr with hr | hr
  ·rcases List.mem_append.1 hr with hr | hr
   ·obtain ⟨l, hl, rfl⟩ := List.mem_map.1 hr
    exact parW_b (parL_b hv l hl)
   ·exact staL_b r hr
  ·obtain ⟨j, hj, hr⟩ := List.mem_flatMap.1 hr
   have := List.mem_range.1 hj
   exact segL_b hv hs (by omega) r hr
 ·split at hr
  ·exact vioL_b h _ _ r hr
  ·simp at hr
theorem flat_le {α β : Type} (f : α → List β) (B : Nat) : ∀ l : List α, (∀ a ∈ l, (f a).length ≤ B) → (l.flatMap f).length ≤ B * l.length
 |[], _ => by simp
 |a :: l, h => by
  have ih := flat_le f B l fun x hx => h x (List.mem_cons_of_mem _ hx)
  have := h a List.mem_cons_self
  rw [List.flatMap_cons, List.length_append, List.length_cons, Nat.mul_add]
  omega
theorem sysL_len {p : Pro} {q : Prp} (h : propE p q = 0) {sch : List Int} (hs : schB (thrL p.rules).length sch) (number : Int) : (sysL p q sch number).length ≤ 100 := by
 have v := vlq_of h
 have w := vld_of v.vld
 have l1 := w.len
 have l2 := w.thr
 have l3 := sch_len hs
 have a : (parL p).length ≤ 9 := by unfold parL; rw [List.length_append, List.length_append]; split <;> simp <;> omega
 have b : (staL p).length ≤ 4 := by unfold staL; rw [List.length_append]; split <;> simp
 have c : ((List.range (sch.length + 1)).flatMap (segL p sch)).length ≤ 13 * (sch.length + 1) := by
  have := flat_le (segL p sch) 13 (List.range (sch.length + 1)) fun j _ => by
   unfold segL
   rw [List.length_append, List.length_append]
   split <;> split <;> simp <;> omega
  simpa using this
 have d : (if 0 ≤ number then vioL p q sch.length number.toNat else []).length ≤ 9 := by
  split
  ·unfold vioL
   split
   ·rename_i hk; have := (v.bad hk).1; simp; omega
   ·simp; omega
  ·simp
 unfold sysL
 rw [List.length_append, List.length_append, List.length_append, List.length_map]
 omega
def sysB (p : Pro) (q : Prp) (sch : List Int) (number : Int) : LSys := ⟨((varL p q sch).length : Int), rowsB p q sch number⟩
theorem rowsB_get {p : Pro} {q : Prp} {sch : List Int} {number : Int} {j : Nat} (hj : j < (rowsB p q sch number).length) : ∃ r ∈ sysL p q sch number, (rowsB p q sch number).getD j row0 = rwL (varL p q sch) r := by
 have hj' : j < (sysL p q sch number).length := by simpa [rowsB] using hj
 refine ⟨(sysL p q sch number)[j], List.getElem_mem _, ?_⟩
 rw [getD_elem row0 hj]
 simp [rowsB]
theorem sysB_ok {p : Pro} {q : Prp} (h : propE p q = 0) {sch : List Int} (hs : schB (thrL p.rules).length sch) (number : Int) : sysE (sysB p q sch number) = 0 := by
 refine sysE_mk ?_ (fun j hj => ?_) ?_ fun j hj => ?_
 ·have := varL_len h hs
  show 0 ≤ ((varL p q sch).length : Int) ∧ ((varL p q sch).length : Int) ≤ 96
  omega
 ·obtain ⟨r, _, e⟩ := rowsB_get hj
  show (((rowsB p q sch number).getD j row0).coef.length : Int) = ((varL p q sch).length : Int)
  rw [e]; simp [rwL]
 ·have := sysL_len h hs number
  show (rowsB p q sch number).length ≤ 192
  unfold rowsB
  rw [List.length_map]
  omega
 ·obtain ⟨r, hr, e⟩ := rowsB_get hj
  show smlB ((rowsB p q sch number).getD j row0)
  rw [e]
  obtain ⟨h1, h2⟩ := sysL_b h hs number r hr
  refine ⟨fun i hi => ?_, ?_⟩
  ·have hi' : i < (varL p q sch).length := by simpa [rwL] using hi
   have : (rwL (varL p q sch) r).coef.getD i 0 = r.1 ((varL p q sch).getD i vb0) := row_get r.1 hi'
   rw [this]
   have := h1 ((varL p q sch).getD i vb0)
   unfold numB; omega
  ·show numB r.2
   unfold numB; omega
def evC (c a : Co) : List Vb → Int
 |[] => 0
 |v :: l => c v * a v + evC c a l
theorem evC_app (c a : Co) (l m : List Vb) : evC c a (l ++ m) = evC c a l + evC c a m := by
 induction l with
 |nil => simp [evC]
 |cons v l ih => rw [List.cons_append, evC, evC, ih]; omega
theorem lft_ev (c a : Co) (vars : List Vb) : ∀ k, k ≤ vars.length → lftK (vars.map c) (vars.map a) k = evC c a (vars.take k)
 |0, _ => by simp [lftK, evC]
 |k + 1, h => by
  rw [lftK, lft_ev c a vars k (by omega), row_get c (by omega), row_get a (by omega), take_succ_getD vb0 (by omega), evC_app, evC, evC]
  omega
theorem val_ev (r : Rw) (a : Co) (vars : List Vb) : valR (rwL vars r) (vars.map a) = r.2 + evC r.1 a vars := by
 unfold valR rwL
 dsimp only
 rw [List.length_map, lft_ev r.1 a vars _ (Nat.le_refl _), List.take_length]
def ptC (vars : List Vb) (x : List Int) : Co := fun v => x.getD (vars.idxOf v) 0
theorem pt_map {vars : List Vb} (hn : vars.Nodup) {x : List Int} (hx : x.length = vars.length) : vars.map (ptC vars x) = x := by
 apply List.ext_getElem
 ·simp [hx]
 ·intro i h1 h2
  have hi : i < vars.length := by simpa using h1
  rw [List.getElem_map]
  unfold ptC
  rw [hn.idxOf_getElem i hi, getD_elem 0 h2]
theorem evC_zero {c a : Co} {l : List Vb} (h : ∀ v ∈ l, c v = 0) : evC c a l = 0 := by
 induction l with
 |nil => rfl
 |cons v l ih => rw [evC, h v List.mem_cons_self, ih fun x hx => h x (List.mem_cons_of_mem _ hx)]; simp
theorem evC_filter {c a : Co} (f : Vb → Bool) : ∀ {l : List Vb}, (∀ v ∈ l, f v = false → c v = 0) → evC c a (l.filter f) = evC c a l
 |[], _ => rfl
 |v :: l, h => by
  have ih := evC_filter (a := a) f (l := l) fun x hx => h x (List.mem_cons_of_mem _ hx)
  by_cases hf : f v = true
  ·rw [List.filter_cons_of_pos hf, evC, evC, ih]
  ·have hf : f v = false := by simpa using hf
   rw [List.filter_cons_of_neg (by simp [hf]), evC, ih, h v List.mem_cons_self hf]
   simp
theorem sat_ev {p : Pro} {q : Prp} (h : propE p q = 0) {sch : List Int} (hs : schB (thrL p.rules).length sch) {number : Int} {a : Co} : satB (sysB p q sch number) ((varL p q sch).map a) ↔ (∀ v ∈ varL p q sch, 0 ≤ a v ∧ a v ≤ 1048576) ∧ ∀ r ∈ sysL p q sch number, 0 ≤ r.2 + evC r.1 a (varL p q sch) := by
 constructor
 ·rintro ⟨_, _, h3, h4⟩
  refine ⟨fun v hv => ?_, fun r hr => ?_⟩
  ·obtain ⟨i, hi, rfl⟩ := List.getElem_of_mem hv
   have := h3 i (by simpa using hi)
   rwa [row_get a hi, getD_elem vb0 hi] at this
  ·obtain ⟨j, hj, rfl⟩ := List.getElem_of_mem hr
   have hj' : j < (rowsB p q sch number).length := by simpa [rowsB] using hj
   have := h4 j hj'
   have e : (sysB p q sch number).rows.getD j row0 = rwL (varL p q sch) (sysL p q sch number)[j] := by
    show (rowsB p q sch number).getD j row0 = _
    rw [getD_elem row0 hj']
    simp [rowsB]
   rw [e, val_ev] at this
   exact this
 ·rintro ⟨h1, h2⟩
  refine ⟨sysB_ok h hs number, ?_, fun j hj => ?_, fun j hj => ?_⟩
  ·show (((varL p q sch).map a).length : Int) = ((varL p q sch).length : Int)
   simp
  ·have hj' : j < (varL p q sch).length := by simpa using hj
   rw [row_get a hj']
   exact h1 _ (mem_getD _ hj')
  ·obtain ⟨r, hr, e⟩ := rowsB_get hj
   show 0 ≤ valR ((rowsB p q sch number).getD j row0) _
   rw [e, val_ev]
   exact h2 r hr
def preB (k : Nat) (v : Vb) : Bool := decide (v.kind < 5 ∨ v.seg ≤ k)
theorem allB_take {T : List Thr} {sch : List Int} {k j : Nat} {r : Rul} (hj : j ≤ k) : allB T (sch.take k) j r ↔ allB T sch j r := by
 unfold allB
 have : ∀ i, i < j → (sch.take k).getD i 0 = sch.getD i 0 := fun i hi => by
  rw [gD, List.getElem?_take, if_pos (by omega), ← gD]
 constructor
 ·intro h g hg
  obtain ⟨i, hi, e⟩ := h g hg
  exact ⟨i, hi, by rwa [this i hi] at e⟩
 ·intro h g hg
  obtain ⟨i, hi, e⟩ := h g hg
  exact ⟨i, hi, by rw [this i hi]; exact e⟩
theorem segV_take {p : Pro} {sch : List Int} {k j m : Nat} (hj : j ≤ k) : segV p (sch.take k) j m = segV p sch j m := by
 unfold segV
 congr 1
 funext r
 unfold ruV
 simp only [allB_take hj]
theorem filter_segs (p : Pro) (sch : List Int) (m k : Nat) : ∀ n, ((List.range n).flatMap fun j => segV p sch j m).filter (preB k) = (List.range (min n (k + 1))).flatMap fun j => segV p sch j m
 |0 => by simp
 |n + 1 => by
  rw [List.range_succ, List.flatMap_append, List.filter_append, filter_segs p sch m k n]
  simp only [List.flatMap_cons, List.flatMap_nil, List.append_nil]
  have hmem : ∀ v ∈ segV p sch n m, v.seg = n ∧ (v.kind = 5 ∨ v.kind = 6) := by
   intro v hv
   obtain ⟨r, _, hv⟩ := segV_mem hv
   have := ruV_mem hv
   exact ⟨this.2.1, by rcases this.1 with h | h <;> omega⟩
  by_cases hn : n ≤ k
  ·have : (segV p sch n m).filter (preB k) = segV p sch n m := List.filter_eq_self.2 fun v hv => by
    have := hmem v hv
    unfold preB
    exact decide_eq_true (.inr (by omega))
   rw [this, show min (n + 1) (k + 1) = min n (k + 1) + 1 by omega, List.range_succ, List.flatMap_append, show min n (k + 1) = n by omega]
   simp
  ·have : (segV p sch n m).filter (preB k) = [] := List.filter_eq_nil_iff.2 fun v hv => by
    have := hmem v hv
    unfold preB
    simp only [decide_eq_true_eq]
    omega
   rw [this, List.append_nil, show min (n + 1) (k + 1) = min n (k + 1) by omega]
theorem varL_pre {p : Pro} {q : Prp} (sch : List Int) {k : Nat} (hk : k ≤ sch.length) : (varL p q sch).filter (preB k) = varL p q (sch.take k) := by
 unfold varL
 rw [List.filter_append, List.filter_append, filter_segs]
 have h1 : (([⟨0, 0, 0⟩, ⟨1, 0, 0⟩, ⟨2, 0, 0⟩] : List Vb)).filter (preB k) = [⟨0, 0, 0⟩, ⟨1, 0, 0⟩, ⟨2, 0, 0⟩] := by
  refine List.filter_eq_self.2 fun v hv => ?_
  simp only [List.mem_cons, List.not_mem_nil, or_false] at hv
  unfold preB
  rcases hv with rfl | rfl | rfl <;> exact decide_eq_true (.inl (by dsimp only; omega))
 have h2 : (stV p q).filter (preB k) = stV p q := by
  refine List.filter_eq_self.2 fun v hv => ?_
  unfold stV at hv
  unfold preB
  refine decide_eq_true (.inl ?_)
  rcases List.mem_append.1 hv with hv | hv
  ·obtain ⟨x, _, rfl⟩ := List.mem_map.1 hv; dsimp only; omega
  ·split at hv
   ·obtain ⟨x, _, rfl⟩ := List.mem_map.1 hv; dsimp only; omega
   ·simp at hv
 rw [h1, h2, List.length_take, show min (sch.length + 1) (k + 1) = min k sch.length + 1 by omega]
 congr 1
 refine congrArg List.flatten (List.map_congr_left fun j hj => ?_)
 have := List.mem_range.1 hj
 exact (segV_take (by omega)).symm
def supB (k : Nat) (c : Co) : Prop := ∀ v, preB k v = false → c v = 0
theorem sup_z (k : Nat) : supB k zC := fun _ _ => rfl
theorem sup_sc {k : Nat} {c d : Co} {x : Int} (h1 : supB k c) (h2 : supB k d) : supB k (scC c x d) := fun v hv => by unfold scC; rw [h1 v hv, h2 v hv]; simp
theorem pre_f {k : Nat} {v : Vb} (h : preB k v = false) : 5 ≤ v.kind ∧ (k : Int) < v.seg := by
 unfold preB at h
 have := of_decide_eq_false h
 omega
theorem sup_lin (k : Nat) (l : Lin) : supB k (linC l) := fun v hv => by
 have := pre_f hv
 unfold linC
 rw [if_neg, if_neg, if_neg]
 ·rintro rfl; dsimp only at this; omega
 ·rintro rfl; dsimp only at this; omega
 ·rintro rfl; dsimp only at this; omega
theorem sup_add {k : Nat} {c : Co} {x : Int} (h : supB k c) : supB k (addC c ⟨2, 0, 0⟩ x) := fun v hv => by
 have := pre_f hv
 unfold addC
 rw [if_neg, h v hv]
 rintro rfl; dsimp only at this; omega
theorem sup_st (k : Nat) {kind : Int} (n : Nat) (hk : kind < 5) : supB k (stC kind n) := fun v hv => by
 have := pre_f hv
 unfold stC
 rw [if_neg (by omega)]
theorem sup_snt {k : Nat} {rs : List Rul} {fire message : Int} {j : Nat} (hj : j ≤ k + 1) : supB k (sntS rs fire message j 0) := fun v hv => by
 have := pre_f hv
 unfold sntS
 rw [if_neg]
 rintro ⟨h, _⟩
 unfold firB at h
 omega
theorem sup_aft {k : Nat} {rs : List Rul} {start fire state : Int} {j : Nat} (hj : j ≤ k + 1) (hs : start < 5) : supB k (aftS rs start fire state j 0) := fun v hv => by
 have := pre_f hv
 unfold aftS
 rw [if_neg, if_neg]
 ·rfl
 ·intro h; unfold firB at h; omega
 ·rintro rfl; dsimp only at this; omega
theorem pre_rows {p : Pro} {q : Prp} {sch : List Int} {k : Nat} (hk : k ≤ sch.length) : ∀ r ∈ sysL p q (sch.take k) (-1), r ∈ sysL p q sch (-1) ∧ supB k r.1 := by
 intro r hr
 unfold sysL at hr ⊢
 rw [if_neg (by omega), List.append_nil] at hr ⊢
 rcases List.mem_append.1 hr with hr | hr
 ·refine ⟨List.mem_append_left _ hr, ?_⟩
  rcases List.mem_append.1 hr with hr | hr
  ·obtain ⟨l, _, rfl⟩ := List.mem_map.1 hr
   exact sup_lin k l
  ·have key : ∀ kind n x l, kind < 5 → supB k (staW kind n x l).1 := fun kind n x l h => sup_sc (sup_sc (sup_z k) (sup_st k n h)) (sup_lin k l)
   unfold staL at hr
   rcases List.mem_append.1 hr with hr | hr
   ·simp only [List.mem_cons, List.not_mem_nil, or_false] at hr
    rcases hr with rfl | rfl <;> exact key _ _ _ _ (by omega)
   ·split at hr
    ·simp only [List.mem_cons, List.not_mem_nil, or_false] at hr
     rcases hr with rfl | rfl <;> exact key _ _ _ _ (by omega)
    ·simp at hr
 ·obtain ⟨j, hj, hr⟩ := List.mem_flatMap.1 hr
  have hj := List.mem_range.1 hj
  rw [List.length_take] at hj
  have e : segL p (sch.take k) j = segL p sch j := by
   unfold segL
   by_cases h0 : 0 < j
   ·have : (sch.take k).getD (j - 1) 0 = sch.getD (j - 1) 0 := by
     rw [gD, List.getElem?_take, if_pos (by omega), ← gD]
    rw [this]
   ·rw [if_neg h0, if_neg h0]
  rw [e] at hr
  refine ⟨List.mem_append_right _ (List.mem_flatMap.2 ⟨j, List.mem_range.2 (by omega), hr⟩), ?_⟩
  unfold segL at hr
  rcases List.mem_append.1 hr with hr | hr
  ·rcases List.mem_append.1 hr with hr | hr
   ·split at hr
    ·simp only [List.mem_cons, List.not_mem_nil, or_false] at hr
     subst hr
     unfold guaW
     dsimp only
     have h1 := sup_sc (x := ((thrL p.rules).getD (sch.getD (j - 1) 0).toNat thr0).coef) (sup_sc (x := ((thrL p.rules).getD (sch.getD (j - 1) 0).toNat thr0).coef) (sup_z k) (sup_snt (k := k) (rs := p.rules) (fire := 5) (message := ((thrL p.rules).getD (sch.getD (j - 1) 0).toNat thr0).message) (j := j) (by omega))) (sup_snt (k := k) (rs := p.rules) (fire := 6) (message := ((thrL p.rules).getD (sch.getD (j - 1) 0).toNat thr0).message) (j := j) (by omega))
     split
     ·exact sup_sc (sup_add h1) (sup_lin k _)
     ·exact sup_sc h1 (sup_lin k _)
    ·simp at hr
   ·obtain ⟨x, _, rfl⟩ := List.mem_map.1 hr
    exact sup_sc (sup_z k) (sup_aft (by omega) (by omega))
  ·split at hr
   ·obtain ⟨x, _, rfl⟩ := List.mem_map.1 hr
    exact sup_sc (sup_z k) (sup_aft (by omega) (by omega))
   ·simp at hr
theorem pre_sat {p : Pro} {q : Prp} (h : propE p q = 0) {sch : List Int} (hs : schB (thrL p.rules).length sch) {k : Nat} (hk : k ≤ sch.length) {a : Co} (hsat : satB (sysB p q sch (-1)) ((varL p q sch).map a)) : satB (sysB p q (sch.take k) (-1)) (((varL p q sch).filter (preB k)).map a) := by
 obtain ⟨h1, h2⟩ := (sat_ev h hs).1 hsat
 rw [varL_pre sch hk]
 refine (sat_ev h (sch_take hs k)).2 ⟨fun v hv => ?_, fun r hr => ?_⟩
 ·rw [← varL_pre sch hk] at hv
  exact h1 v (List.mem_filter.1 hv).1
 ·obtain ⟨a1, a2⟩ := pre_rows hk r hr
  have := h2 r a1
  rwa [← varL_pre sch hk, evC_filter (preB k) fun v _ hv => a2 v hv]
end Go.Proofs.YtfoplfpbjajljaaDoor
