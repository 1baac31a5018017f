import Derived.Test.YtfoplfpbjajljaaDoorFtA
import Derived.Test.YtfoplfpbjajljaaDoorPlR
set_option linter.unusedVariables false
set_option linter.unusedSimpArgs false
namespace Go.Proofs.YtfoplfpbjajljaaDoor
set_option maxRecDepth 100000
set_option maxHeartbeats 8000000
structure Vb where
 kind : Int
 seg : Int
 idx : Int
theorem vb_ext {a b : Vb} (h1 : a.kind = b.kind) (h2 : a.seg = b.seg) (h3 : a.idx = b.idx) : a = b := by
 cases a; cases b; cases h1; cases h2; cases h3; rfl
instance decVb : DecidableEq Vb := fun a b =>
 if h : a.kind = b.kind ∧ a.seg = b.seg ∧ a.idx = b.idx then isTrue (vb_ext h.1 h.2.1 h.2.2) else isFalse (fun e => h (by rw [e]; exact ⟨rfl, rfl, rfl⟩))
def vb0 : Vb := ⟨0, 0, 0⟩
def encVb (v : Vb) : List AV := [.int .i64 v.kind, .int .i64 v.seg, .int .i64 v.idx]
def stL' (p : Pro) (q : Prp) : List Int := if 0 < q.start.length then q.start else p.initial
def riseB (r : Rul) : Prop := r.kind = 1 ∧ r.src < r.dst ∧ r.some_.length = 0 ∧ r.forall_.length = 0
instance (r : Rul) : Decidable (riseB r) := inferInstanceAs (Decidable (_ ∧ _))
def thrB (p : Pro) : Prop := p.topology = 1 ∧ p.values.length = 0 ∧ ∀ j, j < p.rules.length → riseB (p.rules.getD j rul0)
instance (p : Pro) : Decidable (thrB p) := inferInstanceAs (Decidable (_ ∧ _))
def scopeB (p : Pro) (q : Prp) : Prop := q.kind = 2 → ∀ j, j < p.rules.length → (p.rules.getD j rul0).src ∈ q.goal → (p.rules.getD j rul0).dst ∈ q.goal
instance (p : Pro) (q : Prp) : Decidable (scopeB p q) := inferInstanceAs (Decidable (_ → _))
def csK (rs : List Rul) : Nat → Nat
 |0 => 1
 |k + 1 => csK rs k * (1 + (rs.getD k rul0).guards.length)
def csN (p : Pro) (q : Prp) : Nat := if q.kind = 2 then csK p.rules p.rules.length else 1
def chkE (p : Pro) (q : Prp) : Int := if propE p q ≠ 0 then propE p q else if ¬ (thrB p ∧ scopeB p q) then 7 else if 64 < csN p q then 4 else 0
theorem csK_le {rs : List Rul} (h : ∀ j, j < rs.length → (rs.getD j rul0).guards.length ≤ 2) : ∀ k, k ≤ rs.length → csK rs k ≤ 3 ^ k
 |0, _ => by simp [csK]
 |k + 1, hk => by
  have a := csK_le h k (by omega)
  have b := h k (by omega)
  rw [csK, Nat.pow_succ]
  exact Nat.mul_le_mul a (by omega)
def schB (n : Nat) (l : List Int) : Prop := ∀ i, i < l.length → (0 ≤ l.getD i 0 ∧ l.getD i 0 < n) ∧ l.getD i 0 ∉ l.take i
instance (n : Nat) (l : List Int) : Decidable (schB n l) := inferInstanceAs (Decidable (∀ i, i < l.length → _))
theorem nodup_fresh {l : List Int} (h : ∀ i, i < l.length → l.getD i 0 ∉ l.take i) : l.Nodup := by
 rw [List.nodup_iff_pairwise_ne, List.pairwise_iff_getElem]
 intro i j hi hj hij e
 have := h j hj
 rw [getD_elem 0 hj, ← e] at this
 exact this (List.mem_take_iff_getElem.2 ⟨i, by omega, rfl⟩)
theorem nodup_len : ∀ {n : Nat} {l : List Int}, l.Nodup → (∀ x ∈ l, 0 ≤ x ∧ x < n) → l.length ≤ n
 |0, l, _, hb => by
  cases l with
  |nil => simp
  |cons a l => have := hb a (by simp); omega
 |n + 1, l, hn, hb => by
  have h1 : (l.erase (n : Int)).length ≤ n := nodup_len (hn.erase _) fun x hx => by
   have a := hb x (List.mem_of_mem_erase hx)
   have b : x ≠ n := fun e => by subst e; exact (List.Nodup.not_mem_erase hn) hx
   omega
  have h2 : l.length ≤ (l.erase (n : Int)).length + 1 := by
   rw [List.length_erase]; split <;> omega
  omega
theorem sch_nodup {n : Nat} {l : List Int} (h : schB n l) : l.Nodup := nodup_fresh fun i hi => (h i hi).2
theorem sch_len {n : Nat} {l : List Int} (h : schB n l) : l.length ≤ n := nodup_len (sch_nodup h) fun x hx => by
 obtain ⟨i, hi, e⟩ := List.getElem_of_mem hx
 have := (h i hi).1
 rwa [getD_elem 0 hi, e] at this
def xtL (k : Nat) : Nat → List Int → List (List Int)
 |0, at_ => [at_]
 |m + 1, at_ => at_ :: (List.range k).flatMap fun i : Nat => if (i : Int) ∈ at_ then [] else xtL k m (at_ ++ [(i : Int)])
def schL (p : Pro) : List (List Int) := xtL (thrL p.rules).length (thrL p.rules).length []
def chN (rs : List Rul) (number : Nat) : Nat → Nat
 |0 => number
 |m + 1 => chN rs number m / (1 + (rs.getD (rs.length - 1 - m) rul0).guards.length)
def chD (rs : List Rul) (number i : Nat) : Nat := chN rs number (rs.length - 1 - i) % (1 + (rs.getD i rul0).guards.length)
def chL (p : Pro) (number : Nat) : List Int := (List.range p.rules.length).map fun i => (chD p.rules number i : Int)
theorem chL_len (p : Pro) (number : Nat) : (chL p number).length = p.rules.length := by simp [chL]
theorem chL_get {p : Pro} {number i : Nat} (h : i < p.rules.length) : (chL p number).getD i 0 = (chD p.rules number i : Int) := by
 rw [chL, getD_elem 0 (by simp; exact h)]; simp
theorem chD_le (rs : List Rul) (number i : Nat) : chD rs number i ≤ (rs.getD i rul0).guards.length := by
 have := Nat.mod_lt (chN rs number (rs.length - 1 - i)) (show 0 < 1 + (rs.getD i rul0).guards.length by omega)
 unfold chD; omega
def whB (p : Pro) : Prop := p.fault = 1 ∨ p.fault = 2
instance (p : Pro) : Decidable (whB p) := inferInstanceAs (Decidable (_ ∨ _))
def allB (T : List Thr) (sch : List Int) (j : Nat) (r : Rul) : Prop := ∀ g ∈ r.guards, ∃ i, i < j ∧ T.getD (sch.getD i 0).toNat thr0 = g
instance (T : List Thr) (sch : List Int) (j : Nat) (r : Rul) : Decidable (allB T sch j r) := inferInstanceAs (Decidable (∀ g ∈ r.guards, _))
def ruV (p : Pro) (sch : List Int) (j r : Nat) : List Vb := if allB (thrL p.rules) sch j (p.rules.getD r rul0) then (if whB p then [⟨5, j, r⟩, ⟨6, j, r⟩] else [⟨5, j, r⟩]) else []
def segV (p : Pro) (sch : List Int) (j k : Nat) : List Vb := (List.range k).flatMap (ruV p sch j)
def stV (p : Pro) (q : Prp) : List Vb := (stL' p q).map (fun x => ⟨3, 0, x⟩) ++ (if whB p then p.initial.map (fun x => (⟨4, 0, x⟩ : Vb)) else [])
def varL (p : Pro) (q : Prp) (sch : List Int) : List Vb := [⟨0, 0, 0⟩, ⟨1, 0, 0⟩, ⟨2, 0, 0⟩] ++ stV p q ++ (List.range (sch.length + 1)).flatMap fun j => segV p sch j p.rules.length
theorem segV_up (p : Pro) (sch : List Int) (j k : Nat) : segV p sch j (k + 1) = segV p sch j k ++ ruV p sch j k := by simp [segV, List.range_succ, List.flatMap_append]
theorem ruV_len (p : Pro) (sch : List Int) (j r : Nat) : (ruV p sch j r).length ≤ 2 := by unfold ruV; split <;> (try split) <;> simp
theorem segV_len (p : Pro) (sch : List Int) (j : Nat) : ∀ k, (segV p sch j k).length ≤ 2 * k
 |0 => by simp [segV]
 |k + 1 => by rw [segV_up, List.length_append]; have := segV_len p sch j k; have := ruV_len p sch j k; omega
theorem segs_len (p : Pro) (sch : List Int) (m : Nat) : ∀ k, ((List.range k).flatMap fun j => segV p sch j m).length ≤ 2 * m * k
 |0 => by simp
 |k + 1 => by
  rw [List.range_succ, List.flatMap_append, List.length_append]
  have a := segs_len p sch m k
  have b := segV_len p sch k m
  simp only [List.flatMap_cons, List.flatMap_nil, List.append_nil]
  rw [Nat.mul_add, Nat.mul_one]
  omega
theorem ruV_mem {p : Pro} {sch : List Int} {j r : Nat} {v : Vb} (h : v ∈ ruV p sch j r) : (v.kind = 5 ∨ v.kind = 6 ∧ whB p) ∧ v.seg = j ∧ v.idx = r ∧ allB (thrL p.rules) sch j (p.rules.getD r rul0) := by
 unfold ruV at h
 split at h
 ·rename_i ha
  split at h
  ·rename_i hw
   simp only [List.mem_cons, List.not_mem_nil, or_false] at h
   rcases h with rfl | rfl
   ·exact ⟨.inl rfl, rfl, rfl, ha⟩
   ·exact ⟨.inr ⟨rfl, hw⟩, rfl, rfl, ha⟩
  ·simp only [List.mem_cons, List.not_mem_nil, or_false] at h
   subst h
   exact ⟨.inl rfl, rfl, rfl, ha⟩
 ·simp at h
theorem ruV_nodup (p : Pro) (sch : List Int) (j r : Nat) : (ruV p sch j r).Nodup := by
 unfold ruV
 split
 ·split
  ·simp
  ·simp
 ·simp
theorem segV_mem {p : Pro} {sch : List Int} {j k : Nat} {v : Vb} (h : v ∈ segV p sch j k) : ∃ r, r < k ∧ v ∈ ruV p sch j r := by
 unfold segV at h
 obtain ⟨r, hr, hv⟩ := List.mem_flatMap.1 h
 exact ⟨r, List.mem_range.1 hr, hv⟩
theorem segV_nodup (p : Pro) (sch : List Int) (j : Nat) : ∀ k, (segV p sch j k).Nodup
 |0 => by simp [segV]
 |k + 1 => by
  rw [segV_up, List.nodup_append]
  refine ⟨segV_nodup p sch j k, ruV_nodup p sch j k, fun a ha b hb e => ?_⟩
  obtain ⟨r, hr, ha⟩ := segV_mem ha
  have := (ruV_mem ha).2.2.1
  have := (ruV_mem hb).2.2.1
  subst e
  omega
theorem segs_nodup (p : Pro) (sch : List Int) (m : Nat) : ∀ k, ((List.range k).flatMap fun j => segV p sch j m).Nodup
 |0 => by simp
 |k + 1 => by
  rw [List.range_succ, List.flatMap_append, List.nodup_append]
  simp only [List.flatMap_cons, List.flatMap_nil, List.append_nil]
  refine ⟨segs_nodup p sch m k, segV_nodup p sch k m, fun a ha b hb e => ?_⟩
  obtain ⟨j, hj, ha⟩ := List.mem_flatMap.1 ha
  have hj := List.mem_range.1 hj
  obtain ⟨r, _, ha⟩ := segV_mem ha
  obtain ⟨r', _, hb⟩ := segV_mem hb
  have := (ruV_mem ha).2.1
  have := (ruV_mem hb).2.1
  subst e
  omega
theorem set_nodup {l : List Int} {n : Int} (h : setE l n = 0) : l.Nodup := by
 obtain ⟨_, h2⟩ := set_iff h
 have key : ∀ (k i : Nat), i < k → k < l.length → l.getD i 0 < l.getD k 0 := by
  intro k
  induction k with
  |zero => intro i hi; omega
  |succ k ih =>
   intro i hi hk
   have h1 := h2 (k + 1) hk (by omega)
   rw [Nat.add_sub_cancel] at h1
   by_cases e : i = k
   ·subst e; exact h1
   ·have := ih i (by omega) (by omega); omega
 rw [List.nodup_iff_pairwise_ne, List.pairwise_iff_getElem]
 intro i j hi hj hij e
 have := key j i hij hj
 rw [getD_elem 0 hi, getD_elem 0 hj, e] at this
 omega
theorem map_nodup {l : List Int} {f : Int → Vb} (h : l.Nodup) (hf : ∀ a b, f a = f b → a = b) : (l.map f).Nodup := by
 rw [List.nodup_iff_pairwise_ne] at *
 exact List.pairwise_map.2 (h.imp fun hab e => hab (hf _ _ e))
theorem varL_nodup {p : Pro} {q : Prp} (h : propE p q = 0) (sch : List Int) : (varL p q sch).Nodup := by
 have v := vlq_of h
 have hs : (stL' p q).Nodup := by
  unfold stL'; split
  ·exact set_nodup v.start
  ·exact set_nodup (vld_of v.vld).ini.1
 have hst : (stV p q).Nodup := by
  unfold stV
  rw [List.nodup_append]
  refine ⟨map_nodup hs fun a b e => by injection e, ?_, fun a ha b hb e => ?_⟩
  ·split
   ·exact map_nodup (set_nodup (vld_of v.vld).ini.1) fun a b e => by injection e
   ·simp
  ·obtain ⟨x, _, rfl⟩ := List.mem_map.1 ha
   split at hb
   ·obtain ⟨y, _, rfl⟩ := List.mem_map.1 hb
    injection e with e1
    omega
   ·simp at hb
 have hk : ∀ a ∈ stV p q, a.kind = 3 ∨ a.kind = 4 := by
  intro a ha
  unfold stV at ha
  rcases List.mem_append.1 ha with ha | ha
  ·obtain ⟨x, _, rfl⟩ := List.mem_map.1 ha; exact .inl rfl
  ·split at ha
   ·obtain ⟨x, _, rfl⟩ := List.mem_map.1 ha; exact .inr rfl
   ·simp at ha
 have hk2 : ∀ a ∈ ((List.range (sch.length + 1)).flatMap fun j => segV p sch j p.rules.length), a.kind = 5 ∨ a.kind = 6 := by
  intro a ha
  obtain ⟨j, _, ha⟩ := List.mem_flatMap.1 ha
  obtain ⟨r, _, ha⟩ := segV_mem ha
  have := (ruV_mem ha).1
  omega
 unfold varL
 rw [List.nodup_append, List.nodup_append]
 refine ⟨⟨by simp, hst, fun a ha b hb e => ?_⟩, segs_nodup p sch _ _, fun a ha b hb e => ?_⟩
 ·subst e
  have := hk a hb
  simp only [List.mem_cons, List.not_mem_nil, or_false] at ha
  rcases ha with rfl | rfl | rfl <;> simp at this
 ·subst e
  have h2 := hk2 a hb
  rcases List.mem_append.1 ha with ha | ha
  ·simp only [List.mem_cons, List.not_mem_nil, or_false] at ha
   rcases ha with rfl | rfl | rfl <;> simp at h2
  ·have := hk a ha; omega
theorem stV_len {p : Pro} {q : Prp} (h : propE p q = 0) : (stV p q).length ≤ 12 := by
 have v := vlq_of h
 have w := vld_of v.vld
 have a := set_len v.start
 have b := set_len w.ini.1
 have c := w.len
 unfold stV stL'
 rw [List.length_append, List.length_map]
 split <;> split <;> simp <;> omega
theorem varL_len {p : Pro} {q : Prp} (h : propE p q = 0) {sch : List Int} (hs : schB (thrL p.rules).length sch) : (varL p q sch).length ≤ 79 := by
 have w := vld_of (vlq_of h).vld
 have a := stV_len h
 have b := segs_len p sch p.rules.length (sch.length + 1)
 have c := sch_len hs
 have d := w.thr
 have e := w.len
 have f : 2 * p.rules.length * (sch.length + 1) ≤ 16 * 4 := Nat.mul_le_mul (by omega) (by omega)
 unfold varL
 rw [List.length_append, List.length_append]
 simp only [List.length_cons, List.length_nil]
 omega
end Go.Proofs.YtfoplfpbjajljaaDoor
