import Derived.Test.YtfoplfpbjajljaaDoorFtB
set_option linter.unusedVariables false
set_option linter.unusedSimpArgs false
namespace Go.Proofs.YtfoplfpbjajljaaDoor
set_option maxRecDepth 100000
set_option maxHeartbeats 8000000
abbrev Co := Vb → Int
def zC : Co := fun _ => 0
def addC (c : Co) (v0 : Vb) (k : Int) : Co := fun v => if v = v0 then c v + k else c v
theorem addC_same (c : Co) (v : Vb) (k : Int) : addC c v k v = c v + k := by simp [addC]
theorem addC_ne (c : Co) {v v0 : Vb} (k : Int) (h : v ≠ v0) : addC c v0 k v = c v := by simp [addC, h]
theorem row_get (c : Co) {vars : List Vb} {m : Nat} (hm : m < vars.length) : (vars.map c).getD m 0 = c (vars.getD m vb0) := by
 rw [getD_elem 0 (by simpa using hm), getD_elem vb0 hm, List.getElem_map]
theorem row_skip (c : Co) {vars : List Vb} {v0 : Vb} (k : Int) (h : v0 ∉ vars) : vars.map (addC c v0 k) = vars.map c :=
 List.map_congr_left fun v hv => addC_ne c k fun e => h (e ▸ hv)
theorem row_add (c : Co) {vars : List Vb} {m : Nat} (k : Int) (hn : vars.Nodup) (hm : m < vars.length) : (vars.map c).set m (c (vars.getD m vb0) + k) = vars.map (addC c (vars.getD m vb0) k) := by
 generalize e0 : vars.getD m vb0 = v0
 have e0 : vars[m] = v0 := by rw [← e0, getD_elem vb0 hm]
 apply List.ext_getElem
 ·simp
 ·intro i h1 h2
  rw [List.getElem_set, List.getElem_map]
  by_cases e : m = i
  ·subst e; rw [if_pos rfl, List.getElem_map, e0, addC_same]
  ·rw [if_neg e, List.getElem_map, addC_ne]
   exact fun e2 => e ((List.getElem_inj hn).1 (e0.trans e2.symm))
noncomputable def plN (vars : List Vb) (kind : Int) : Nat → Int × Int → Option Int
 |0 => fun _ => none
 |n + 1 => if (vars.getD n vb0).kind = kind then updF (plN vars kind n) ((vars.getD n vb0).seg, (vars.getD n vb0).idx) (n : Int) else plN vars kind n
theorem plN_some {vars : List Vb} {kind s i : Int} : ∀ {n : Nat} {j : Int}, plN vars kind n (s, i) = some j → ∃ m : Nat, j = m ∧ m < n ∧ vars.getD m vb0 = ⟨kind, s, i⟩
 |0, j, h => by cases h
 |n + 1, j, h => by
  rw [plN] at h
  split at h
  ·rename_i hk
   by_cases e : (s, i) = ((vars.getD n vb0).seg, (vars.getD n vb0).idx)
   ·rw [e, updF_same] at h
    cases h
    injection e with e1 e2
    exact ⟨n, rfl, by omega, vb_ext hk e1.symm e2.symm⟩
   ·rw [updF_ne _ _ e] at h
    obtain ⟨m, a, b, c⟩ := plN_some h
    exact ⟨m, a, by omega, c⟩
  ·obtain ⟨m, a, b, c⟩ := plN_some h
   exact ⟨m, a, by omega, c⟩
theorem plN_none {vars : List Vb} {kind s i : Int} : ∀ {n : Nat}, plN vars kind n (s, i) = none → ∀ m, m < n → vars.getD m vb0 ≠ ⟨kind, s, i⟩
 |0, _, m, hm => by omega
 |n + 1, h, m, hm => by
  rw [plN] at h
  by_cases e : m = n
  ·subst e
   intro e2
   rw [e2, if_pos rfl, updF_same] at h
   cases h
  ·split at h
   ·rename_i hk
    by_cases e : (s, i) = ((vars.getD n vb0).seg, (vars.getD n vb0).idx)
    ·rw [e, updF_same] at h; cases h
    ·rw [updF_ne _ _ e] at h
     exact plN_none h m (by omega)
   ·exact plN_none h m (by omega)
theorem plN_notin {vars : List Vb} {kind s i : Int} (h : plN vars kind vars.length (s, i) = none) : (⟨kind, s, i⟩ : Vb) ∉ vars := by
 intro hm
 obtain ⟨m, hm, e⟩ := List.getElem_of_mem hm
 exact plN_none h m hm (by rw [getD_elem vb0 hm, e])
def linC (l : Lin) : Co := fun v => if v = ⟨0, 0, 0⟩ then l.n else if v = ⟨1, 0, 0⟩ then l.t else if v = ⟨2, 0, 0⟩ then l.f else 0
def scC (c : Co) (k : Int) (d : Co) : Co := fun v => c v + k * d v
def firB (n : Nat) (fire : Int) (j i : Nat) (v : Vb) : Prop := v.kind = fire ∧ 0 ≤ v.seg ∧ 0 ≤ v.idx ∧ (v.seg < j ∧ v.idx < n ∨ v.seg = j ∧ v.idx < i)
instance (n : Nat) (fire : Int) (j i : Nat) (v : Vb) : Decidable (firB n fire j i v) := inferInstanceAs (Decidable (_ ∧ _))
def dlt (rs : List Rul) (state : Int) (v : Vb) : Int := (if (rs.getD v.idx.toNat rul0).dst = state then 1 else 0) - (if (rs.getD v.idx.toNat rul0).src = state then 1 else 0)
def aftS (rs : List Rul) (start fire state : Int) (j i : Nat) : Co := fun v => (if v = ⟨start, 0, state⟩ then 1 else 0) + if firB rs.length fire j i v then dlt rs state v else 0
def sntS (rs : List Rul) (fire message : Int) (j i : Nat) : Co := fun v => if firB rs.length fire j i v ∧ message ∈ (rs.getD v.idx.toNat rul0).send then 1 else 0
theorem fir_next (n : Nat) (fire : Int) (j i : Nat) (v : Vb) : firB n fire j (i + 1) v ↔ firB n fire j i v ∨ v = ⟨fire, j, i⟩ := by
 unfold firB
 constructor
 ·rintro ⟨h1, h2, h3, h4⟩
  by_cases e : v.seg = j ∧ v.idx = i
  ·exact .inr (vb_ext h1 e.1 e.2)
  ·exact .inl ⟨h1, h2, h3, by omega⟩
 ·rintro (⟨h1, h2, h3, h4⟩ | rfl)
  ·exact ⟨h1, h2, h3, by omega⟩
  ·refine ⟨rfl, ?_, ?_, ?_⟩ <;> dsimp only <;> omega
theorem fir_not (n : Nat) (fire : Int) (j i : Nat) : ¬ firB n fire j i ⟨fire, j, i⟩ := by unfold firB; dsimp only; omega
theorem fir_end (n : Nat) (fire : Int) (j : Nat) (v : Vb) : firB n fire j n v ↔ firB n fire (j + 1) 0 v := by unfold firB; omega
theorem aft_end (rs : List Rul) (start fire state : Int) (j : Nat) : aftS rs start fire state j rs.length = aftS rs start fire state (j + 1) 0 := by
 funext v; unfold aftS; simp only [fir_end]
theorem snt_end (rs : List Rul) (fire message : Int) (j : Nat) : sntS rs fire message j rs.length = sntS rs fire message (j + 1) 0 := by
 funext v; unfold sntS; simp only [fir_end]
theorem aft_b (rs : List Rul) (start fire state : Int) (j i : Nat) (v : Vb) : -1 ≤ aftS rs start fire state j i v ∧ aftS rs start fire state j i v ≤ 2 := by
 unfold aftS dlt
 (repeat' split) <;> omega
theorem snt_b (rs : List Rul) (fire message : Int) (j i : Nat) (v : Vb) : 0 ≤ sntS rs fire message j i v ∧ sntS rs fire message j i v ≤ 1 := by
 unfold sntS
 split <;> omega
theorem snt_next (rs : List Rul) (fire message : Int) (j i : Nat) (c : Co) (k : Int) : scC c k (sntS rs fire message j (i + 1)) = if message ∈ (rs.getD i rul0).send then addC (scC c k (sntS rs fire message j i)) ⟨fire, j, i⟩ k else scC c k (sntS rs fire message j i) := by
 funext v
 by_cases e : v = ⟨fire, j, i⟩
 ·subst e
  by_cases hm : message ∈ (rs.getD i rul0).send
  ·rw [if_pos hm, addC_same]
   unfold scC sntS
   rw [if_pos ⟨(fir_next _ _ _ _ _).2 (.inr rfl), by simpa using hm⟩, if_neg (fun h => fir_not _ _ _ _ h.1)]
   omega
  ·rw [if_neg hm]
   unfold scC sntS
   rw [if_neg (fun h => hm (by simpa using h.2)), if_neg (fun h => fir_not _ _ _ _ h.1)]
 ·have a : firB rs.length fire j (i + 1) v ↔ firB rs.length fire j i v := by rw [fir_next]; simp [e]
  have b : scC c k (sntS rs fire message j (i + 1)) v = scC c k (sntS rs fire message j i) v := by unfold scC sntS; simp only [a]
  rw [b]
  split
  ·rw [addC_ne _ _ e]
  ·rfl
def stepA (rs : List Rul) (c : Co) (k state fire : Int) (j i : Nat) : Co :=
 let c1 := if (rs.getD i rul0).dst = state then addC c ⟨fire, j, i⟩ k else c
 if (rs.getD i rul0).src = state then addC c1 ⟨fire, j, i⟩ (-k) else c1
theorem aft_next (rs : List Rul) (start fire state : Int) (j i : Nat) (c : Co) (k : Int) : scC c k (aftS rs start fire state j (i + 1)) = stepA rs (scC c k (aftS rs start fire state j i)) k state fire j i := by
 funext v
 unfold stepA
 by_cases e : v = ⟨fire, j, i⟩
 ·subst e
  have h1 := (fir_next rs.length fire j i ⟨fire, j, i⟩).2 (.inr rfl)
  have h2 := fir_not rs.length fire j i
  have e2 : (⟨fire, j, i⟩ : Vb).idx.toNat = i := by simp
  have key : scC c k (aftS rs start fire state j (i + 1)) ⟨fire, j, i⟩ = scC c k (aftS rs start fire state j i) ⟨fire, j, i⟩ + k * dlt rs state ⟨fire, j, i⟩ := by
   unfold scC aftS
   rw [if_pos h1, if_neg h2, Int.mul_add, Int.mul_add]
   omega
  rw [key]
  unfold dlt
  rw [e2]
  by_cases hd : (rs.getD i rul0).dst = state <;> by_cases hs : (rs.getD i rul0).src = state <;> simp only [hd, hs, if_pos, if_neg, if_true, if_false, addC_same, not_false_eq_true] <;> omega
 ·have a : firB rs.length fire j (i + 1) v ↔ firB rs.length fire j i v := by rw [fir_next]; simp [e]
  have b : scC c k (aftS rs start fire state j (i + 1)) v = scC c k (aftS rs start fire state j i) v := by unfold scC aftS; simp only [a]
  rw [b]
  split <;> split <;> simp only [addC_ne _ _ e]
theorem lin_add (c : Co) (k : Int) (l : Lin) : addC (addC (addC c ⟨0, 0, 0⟩ (k * l.n)) ⟨1, 0, 0⟩ (k * l.t)) ⟨2, 0, 0⟩ (k * l.f) = scC c k (linC l) := by
 funext v
 unfold addC scC linC
 by_cases h0 : v = ⟨0, 0, 0⟩
 ·subst h0; simp
 ·by_cases h1 : v = ⟨1, 0, 0⟩
  ·subst h1; simp
  ·by_cases h2 : v = ⟨2, 0, 0⟩
   ·subst h2; simp
   ·simp [h0, h1, h2]
def stC (kind : Int) (n : Nat) : Co := fun v => if v.kind = kind ∧ v.seg = 0 ∧ 0 ≤ v.idx ∧ v.idx < n then 1 else 0
theorem st_next (kind : Int) (n : Nat) (c : Co) (k : Int) : scC c k (stC kind (n + 1)) = addC (scC c k (stC kind n)) ⟨kind, 0, n⟩ k := by
 funext v
 by_cases e : v = ⟨kind, 0, n⟩
 ·subst e
  rw [addC_same]
  unfold scC stC
  rw [if_pos ⟨rfl, rfl, by dsimp only; omega, by dsimp only; omega⟩, if_neg (by dsimp only; omega)]
  omega
 ·rw [addC_ne _ _ e]
  unfold scC stC
  have h : (v.kind = kind ∧ v.seg = 0 ∧ 0 ≤ v.idx ∧ v.idx < (n + 1 : Nat)) ↔ (v.kind = kind ∧ v.seg = 0 ∧ 0 ≤ v.idx ∧ v.idx < n) := by
   constructor
   ·intro h
    have : v.idx ≠ n := fun h2 => e (vb_ext h.1 h.2.1 h2)
    omega
   ·intro h; omega
  simp only [h]
abbrev Rw := Co × Int
def rwL (vars : List Vb) (r : Rw) : Row := ⟨vars.map r.1, r.2⟩
def parW (l : Lin) : Rw := (linC l, l.c)
def staW (kind : Int) (n : Nat) (k : Int) (l : Lin) : Rw := (scC (scC zC k (stC kind n)) (-k) (linC l), -k * l.c)
def guaW (p : Pro) (g : Thr) (j : Nat) : Rw :=
 let c1 := scC (scC zC g.coef (sntS p.rules 5 g.message j 0)) g.coef (sntS p.rules 6 g.message j 0)
 let c2 := if p.fault = 3 then addC c1 ⟨2, 0, 0⟩ g.coef else c1
 (scC c2 (-1) (linC g.bound), -g.bound.c)
def aftW (p : Pro) (start fire : Int) (x j : Nat) : Rw := (scC zC 1 (aftS p.rules start fire x (j + 1) 0), 0)
def amgW (p : Pro) (seg : Nat) (states : List Int) (least : Int) : Rw := (states.foldl (fun c x => scC c 1 (aftS p.rules 3 5 x (seg + 1) 0)) zC, -least)
def idlW (p : Pro) (seg : Nat) (r : Rul) (ch : Int) : Rw :=
 if ch = 0 then (scC zC (-1) (aftS p.rules 3 5 r.src (seg + 1) 0), 0)
 else
  let g := r.guards.getD (ch - 1).toNat thr0
  let c1 := scC zC (-g.coef) (sntS p.rules 5 g.message (seg + 1) 0)
  let c2 := if p.fault = 1 then scC c1 (-g.coef) (sntS p.rules 6 g.message (seg + 1) 0) else c1
  (scC c2 1 (linC g.bound), g.bound.c - 1)
def parL (p : Pro) : List Lin := [⟨-1, 1, 0, 0⟩, ⟨0, 1, -1, 0⟩, ⟨0, 1, 0, -1⟩] ++ (if p.fault = 0 then [⟨0, 0, -1, 0⟩, ⟨0, 0, 0, -1⟩] else []) ++ p.resilience
def staL (p : Pro) : List Rw := [staW 3 p.states.length 1 ⟨0, 1, 0, -1⟩, staW 3 p.states.length (-1) ⟨0, 1, 0, -1⟩] ++ if whB p then [staW 4 p.states.length 1 ⟨0, 0, 0, 1⟩, staW 4 p.states.length (-1) ⟨0, 0, 0, 1⟩] else []
def segL (p : Pro) (sch : List Int) (j : Nat) : List Rw :=
 (if 0 < j then [guaW p ((thrL p.rules).getD (sch.getD (j - 1) 0).toNat thr0) j] else []) ++ ((List.range p.states.length).map fun x => aftW p 3 5 x j) ++ (if whB p then (List.range p.states.length).map fun x => aftW p 4 6 x j else [])
def outL (p : Pro) (q : Prp) : List Int := ((List.range p.states.length).map fun x : Nat => (x : Int)).filter fun x => decide (x ∉ q.goal)
def vioL (p : Pro) (q : Prp) (seg number : Nat) : List Rw :=
 if q.kind = 1 then q.bad.map fun c => amgW p seg c.states c.least
 else amgW p seg (outL p q) 1 :: (List.range p.rules.length).map fun i => idlW p seg (p.rules.getD i rul0) ((chL p number).getD i 0)
def sysL (p : Pro) (q : Prp) (sch : List Int) (number : Int) : List Rw :=
 (parL p).map parW ++ staL p ++ ((List.range (sch.length + 1)).flatMap (segL p sch)) ++ if 0 ≤ number then vioL p q sch.length number.toNat else []
def rowsB (p : Pro) (q : Prp) (sch : List Int) (number : Int) : List Row := (sysL p q sch number).map (rwL (varL p q sch))
end Go.Proofs.YtfoplfpbjajljaaDoor
