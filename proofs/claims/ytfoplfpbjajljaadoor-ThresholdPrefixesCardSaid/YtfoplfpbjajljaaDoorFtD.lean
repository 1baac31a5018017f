import Derived.Test.YtfoplfpbjajljaaDoorFtC
set_option linter.unusedVariables false
set_option linter.unusedSimpArgs false
namespace Go.Proofs.YtfoplfpbjajljaaDoor
set_option maxRecDepth 100000
set_option maxHeartbeats 8000000
def vkB (p : Pro) (sch : List Int) (v : Vb) : Prop :=
 (v = ⟨0, 0, 0⟩ ∨ v = ⟨1, 0, 0⟩ ∨ v = ⟨2, 0, 0⟩) ∨ ((v.kind = 3 ∨ v.kind = 4 ∧ whB p) ∧ v.seg = 0 ∧ 0 ≤ v.idx ∧ v.idx < p.states.length) ∨
 ((v.kind = 5 ∨ v.kind = 6 ∧ whB p) ∧ (0 ≤ v.seg ∧ v.seg ≤ sch.length) ∧ 0 ≤ v.idx ∧ v.idx < p.rules.length)
theorem set_in {l : List Int} {n : Int} (h : setE l n = 0) : ∀ x ∈ l, 0 ≤ x ∧ x < n := by
 intro x hx
 obtain ⟨i, hi, e⟩ := List.getElem_of_mem hx
 have := (set_iff h).1 i hi
 rwa [getD_elem 0 hi, e] at this
theorem st_in {p : Pro} {q : Prp} (h : propE p q = 0) : ∀ x ∈ stL' p q, 0 ≤ x ∧ x < p.states.length := by
 have v := vlq_of h
 unfold stL'
 split
 ·exact set_in v.start
 ·exact set_in (vld_of v.vld).ini.1
theorem var_kind {p : Pro} {q : Prp} {sch : List Int} (h : propE p q = 0) {v : Vb} (hv : v ∈ varL p q sch) : vkB p sch v := by
 unfold varL at hv
 rcases List.mem_append.1 hv with hv | hv
 ·rcases List.mem_append.1 hv with hv | hv
  ·simp only [List.mem_cons, List.not_mem_nil, or_false] at hv
   exact .inl hv
  ·right; left
   unfold stV at hv
   rcases List.mem_append.1 hv with hv | hv
   ·obtain ⟨x, hx, rfl⟩ := List.mem_map.1 hv
    exact ⟨.inl rfl, rfl, st_in h x hx⟩
   ·split at hv
    ·rename_i hw
     obtain ⟨x, hx, rfl⟩ := List.mem_map.1 hv
     exact ⟨.inr ⟨rfl, hw⟩, rfl, set_in (vld_of (vlq_of h).vld).ini.1 x hx⟩
    ·simp at hv
 ·right; right
  obtain ⟨j, hj, hv⟩ := List.mem_flatMap.1 hv
  have hj := List.mem_range.1 hj
  obtain ⟨r, hr, hv⟩ := segV_mem hv
  obtain ⟨a, b, c, _⟩ := ruV_mem hv
  exact ⟨a, by omega, by omega⟩
def aftD (rs : List Rul) (start fire state : Int) (seg : Nat) : Co := fun v =>
 if v.kind = fire ∧ v.seg ≤ seg ∧ (rs.getD v.idx.toNat rul0).src = state then -1
 else if v.kind = fire ∧ v.seg ≤ seg ∧ (rs.getD v.idx.toNat rul0).dst = state then 1
 else if v.kind = start ∧ v.idx = state then 1 else 0
def sntD (rs : List Rul) (fire message : Int) (seg : Nat) : Co := fun v => if v.kind = fire ∧ v.seg < seg ∧ message ∈ (rs.getD v.idx.toNat rul0).send then 1 else 0
def stD (kind : Int) : Co := fun v => if v.kind = kind then 1 else 0
section
variable {p : Pro} {sch : List Int} {v : Vb}
theorem aft_same (ht : thrB p) (hk : vkB p sch v) {start fire state : Int} {seg : Nat} (hs : start = 3 ∧ fire = 5 ∨ start = 4 ∧ fire = 6) : aftD p.rules start fire state seg v = aftS p.rules start fire state (seg + 1) 0 v := by
 have hv : v = ⟨start, 0, state⟩ ↔ v.kind = start ∧ v.seg = 0 ∧ v.idx = state := ⟨fun e => by subst e; exact ⟨rfl, rfl, rfl⟩, fun e => vb_ext e.1 e.2.1 e.2.2⟩
 unfold aftD aftS dlt
 by_cases hf : v.kind = fire
 ·have hne : ¬ v = ⟨start, 0, state⟩ := fun e => by have := hv.1 e; omega
  rw [if_neg hne]
  have h5 : (0 ≤ v.seg ∧ v.seg ≤ sch.length) ∧ 0 ≤ v.idx ∧ v.idx < p.rules.length := by
   rcases hk with (rfl | rfl | rfl) | hk | hk
   ·dsimp only at hf; omega
   ·dsimp only at hf; omega
   ·dsimp only at hf; omega
   ·omega
   ·exact hk.2
  have hrise := (ht.2.2 v.idx.toNat (by omega)).2.1
  by_cases hseg : v.seg ≤ seg
  ·rw [if_pos (show firB p.rules.length fire (seg + 1) 0 v from ⟨hf, by omega, by omega, by omega⟩)]
   by_cases h1 : (p.rules.getD v.idx.toNat rul0).src = state
   ·rw [if_pos ⟨hf, hseg, h1⟩, if_pos h1, if_neg (by omega)]; rfl
   ·rw [if_neg (fun h => h1 h.2.2), if_neg h1]
    by_cases h2 : (p.rules.getD v.idx.toNat rul0).dst = state
    ·rw [if_pos ⟨hf, hseg, h2⟩, if_pos h2]; rfl
    ·rw [if_neg (fun h => h2 h.2.2), if_neg h2, if_neg (by omega)]; rfl
  ·rw [if_neg (fun h => hseg h.2.1), if_neg (fun h => hseg h.2.1), if_neg (by omega), if_neg (fun h : firB p.rules.length fire (seg + 1) 0 v => by unfold firB at h; omega)]
   rfl
 ·rw [if_neg (fun h => hf h.1), if_neg (fun h => hf h.1), if_neg (fun h : firB p.rules.length fire (seg + 1) 0 v => hf h.1)]
  by_cases h1 : v.kind = start
  ·have h0 : v.seg = 0 := by
    rcases hk with (rfl | rfl | rfl) | hk | hk
    ·rfl
    ·rfl
    ·rfl
    ·exact hk.2.1
    ·omega
   by_cases h2 : v.idx = state
   ·rw [if_pos ⟨h1, h2⟩, if_pos (hv.2 ⟨h1, h0, h2⟩)]; rfl
   ·rw [if_neg (fun h => h2 h.2), if_neg (fun h => h2 (hv.1 h).2.2)]; rfl
  ·rw [if_neg (fun h => h1 h.1), if_neg (fun h => h1 (hv.1 h).1)]; rfl
theorem snt_same (hk : vkB p sch v) {fire message : Int} {seg : Nat} (hs : fire = 5 ∨ fire = 6) : sntD p.rules fire message seg v = sntS p.rules fire message seg 0 v := by
 unfold sntD sntS
 have : (v.kind = fire ∧ v.seg < seg ∧ message ∈ (p.rules.getD v.idx.toNat rul0).send) ↔ (firB p.rules.length fire seg 0 v ∧ message ∈ (p.rules.getD v.idx.toNat rul0).send) := by
  unfold firB
  constructor
  ·rintro ⟨h1, h2, h3⟩
   rcases hk with (rfl | rfl | rfl) | hk | hk
   ·dsimp only at h1; omega
   ·dsimp only at h1; omega
   ·dsimp only at h1; omega
   ·omega
   ·exact ⟨⟨h1, hk.2.1.1, hk.2.2.1, .inl ⟨h2, hk.2.2.2⟩⟩, h3⟩
  ·rintro ⟨⟨h1, h2, h3, h4⟩, h5⟩
   exact ⟨h1, by omega, h5⟩
 simp only [this]
theorem st_same (hk : vkB p sch v) {kind : Int} (hs : kind = 3 ∨ kind = 4) : stD kind v = stC kind p.states.length v := by
 unfold stD stC
 have : v.kind = kind ↔ (v.kind = kind ∧ v.seg = 0 ∧ 0 ≤ v.idx ∧ v.idx < p.states.length) := by
  refine ⟨fun h => ?_, fun h => h.1⟩
  rcases hk with (rfl | rfl | rfl) | hk | hk
  ·dsimp only at h; omega
  ·dsimp only at h; omega
  ·dsimp only at h; omega
  ·exact ⟨h, hk.2⟩
  ·omega
 simp only [← this]
end
theorem fil3 (l : Lin) (vs : List Vb) (h : ∀ v ∈ vs, v ≠ ⟨0, 0, 0⟩ ∧ v ≠ ⟨1, 0, 0⟩ ∧ v ≠ ⟨2, 0, 0⟩) : (([⟨0, 0, 0⟩, ⟨1, 0, 0⟩, ⟨2, 0, 0⟩] : List Vb) ++ vs).map (linC l) = [l.n, l.t, l.f] ++ List.replicate vs.length 0 := by
 rw [List.map_append]
 congr 1
 rw [List.eq_replicate_iff]
 refine ⟨by simp, fun x hx => ?_⟩
 obtain ⟨v, hv, rfl⟩ := List.mem_map.1 hx
 obtain ⟨a, b, c⟩ := h v hv
 simp [linC, a, b, c]
theorem lin_row {p : Pro} {q : Prp} {sch : List Int} (h : propE p q = 0) (l : Lin) : (varL p q sch).map (linC l) = [l.n, l.t, l.f] ++ List.replicate ((varL p q sch).length - 3) 0 := by
 have e : varL p q sch = [⟨0, 0, 0⟩, ⟨1, 0, 0⟩, ⟨2, 0, 0⟩] ++ (stV p q ++ (List.range (sch.length + 1)).flatMap fun j => segV p sch j p.rules.length) := by unfold varL; rw [List.append_assoc]
 have hn := varL_nodup h sch
 rw [e] at hn ⊢
 rw [fil3]
 ·rfl
 ·intro v hv
  rw [List.nodup_append] at hn
  have := hn.2.2
  refine ⟨fun e2 => ?_, fun e2 => ?_, fun e2 => ?_⟩
  ·exact this ⟨0, 0, 0⟩ (by simp) v hv e2.symm
  ·exact this ⟨1, 0, 0⟩ (by simp) v hv e2.symm
  ·exact this ⟨2, 0, 0⟩ (by simp) v hv e2.symm
def ordL (rs : List Rul) (ns : Nat) : List Int := (List.range ns).flatMap fun x : Nat => ((List.range rs.length).filter fun r => decide ((rs.getD r rul0).src = (x : Int))).map fun r : Nat => (r : Int)
end Go.Proofs.YtfoplfpbjajljaaDoor
