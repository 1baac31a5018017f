import Derived.Test.YtnjggjhkfncnlaaGreatDoorM5
import Derived.Test.YtnjggjhkfncnlaaGreatDoorPlR
set_option linter.unusedVariables false
set_option linter.unusedSimpArgs false
namespace Go.Proofs.YtnjggjhkfncnlaaGreatDoor
set_option maxRecDepth 100000
set_option maxHeartbeats 8000000
theorem set_iff {l : List Int} {n : Int} (h : setE l n = 0) : inR l n ∧ incr l:=by
 unfold setE at h
 by_cases h1 : inR l n
 ·rw [if_pos h1] at h
  by_cases h2 : incr l
  ·exact ⟨h1, h2⟩
  ·rw [if_neg h2] at h; omega
 ·rw [if_neg h1] at h; omega
theorem set_low {l : List Int} {n : Int} (h : setE l n = 0) : ∀ k, k < l.length → (k : Int) ≤ l.getD k 0:=by
 obtain ⟨h1, h2⟩:=set_iff h
 intro k
 induction k with
 |zero=>intro hk; exact (h1 0 hk).1
 |succ k ih =>
  intro hk
  have a:=ih (by omega)
  have b:=h2 (k + 1) hk (by omega)
  rw [Nat.add_sub_cancel] at b
  omega
theorem set_len {l : List Int} {n : Nat} (h : setE l n = 0) : l.length ≤ n:=by
 by_cases h0 : l.length = 0
 ·omega
 have a:=set_low h (l.length - 1) (by omega)
 have b:=(set_iff h).1 (l.length - 1) (by omega)
 omega
structure Vld (p : Pro) : Prop where
 name : validN p.name
 top : 1 ≤ p.topology ∧ p.topology ≤ 4 ∧ 0 ≤ p.fault ∧ p.fault ≤ 3
 len : 0 < p.states.length ∧ p.states.length ≤ 6 ∧ p.messages.length ≤ 3 ∧ p.values.length ≤ 3 ∧ p.resilience.length ≤ 4 ∧ p.rules.length ≤ 8
 nms : nmsB (allN p)
 shp : ¬ ((p.topology ≠ 1 ∧ (0 < p.messages.length ∨ 0 < p.values.length ∨ 0 < p.resilience.length ∨ p.fault ≠ 0)) ∨ (p.topology = 1 ∧ 0 < p.leader.length))
 res : resB p
 ini : setE p.initial p.states.length = 0 ∧ 0 < p.initial.length ∧ setE p.leader p.states.length = 0
 rul : ∀ i, i < p.rules.length → ruleE p i (p.rules.getD i rul0) = 0
 thr : (thrL p.rules).length ≤ 3
theorem vld_of {p : Pro} (h : validE p = 0) : Vld p:=by
 unfold validE at h
 by_cases h1 : ¬ validN p.name
 ·rw [if_pos h1] at h; omega
 rw [if_neg h1] at h
 by_cases h2 : p.topology < 1 ∨ 4 < p.topology ∨ p.fault < 0 ∨ 3 < p.fault
 ·rw [if_pos h2] at h; omega
 rw [if_neg h2] at h
 by_cases h3 : p.states.length = 0
 ·rw [if_pos h3] at h; omega
 rw [if_neg h3] at h
 by_cases h4 : 6 < p.states.length ∨ 3 < p.messages.length ∨ 3 < p.values.length ∨ 4 < p.resilience.length ∨ 8 < p.rules.length
 ·rw [if_pos h4] at h; omega
 rw [if_neg h4] at h
 by_cases h5 : ¬ nmsB (allN p)
 ·rw [if_pos h5] at h; omega
 rw [if_neg h5] at h
 by_cases h6 : (p.topology ≠ 1 ∧ (0 < p.messages.length ∨ 0 < p.values.length ∨ 0 < p.resilience.length ∨ p.fault ≠ 0)) ∨ (p.topology = 1 ∧ 0 < p.leader.length)
 ·rw [if_pos h6] at h; omega
 rw [if_neg h6] at h
 by_cases h7 : ¬ resB p
 ·rw [if_pos h7] at h; omega
 rw [if_neg h7] at h
 have hz:=orl_zero h
 have a1:=hz (if p.initial.length = 0 then 1 else 0) (by simp)
 have a2:=hz (rulesE p) (by simp)
 have a3:=hz (if 3 < (thrL p.rules).length then 4 else 0) (by simp)
 refine ⟨Classical.not_not.1 h1, by omega, by omega, Classical.not_not.1 h5, h6, Classical.not_not.1 h7, ⟨hz _ (by simp), ?_, hz _ (by simp)⟩, fun i hi=>?_, ?_⟩
 ·split at a1 <;> omega
 ·exact orl_zero a2 _ (List.mem_map.2 ⟨i, List.mem_range.2 hi, rfl⟩)
 ·split at a3 <;> omega
theorem resp_n {l : List Int} {n : Int} (h : respE l n = 0) : (l.length : Int) = n:=by
 unfold respE at h
 split at h <;> omega
theorem rule_small {p : Pro} {i : Nat} {r : Rul} (hl : 0 < p.states.length ∧ p.states.length ≤ 6 ∧ p.messages.length ≤ 3) (h : ruleE p i r = 0) : ¬ bigR r:=by
 obtain ⟨h1, h2, h3, _, _, h6⟩:=rule_parts h
 have hn:=h1.1.2
 unfold surB at h3
 unfold fitB at h2
 unfold kindE at h6
 unfold bigR
 have hk : r.kind = 1 ∨ r.kind = 2 ∨ r.kind = 3 ∨ r.kind = 4 ∨ r.kind = 5:=by omega
 rcases hk with k | k | k | k | k
 ·rw [if_pos k] at h6
  have hz:=orl_zero h6
  have c1:=guards_2 (hz (guardsE p.messages.length r.guards) (by simp))
  have c2:=set_len (hz (setE r.some_ p.states.length) (by simp))
  have c3:=set_len (hz (setE r.forall_ p.states.length) (by simp))
  have c4:=set_len (hz (setE r.send p.messages.length) (by simp))
  omega
 ·omega
 ·rw [if_neg (by omega), if_neg (by omega), if_pos k] at h6
  have c1:=resp_n (orl_zero h6 (respE r.response p.states.length) (by simp))
  omega
 ·rw [if_neg (by omega), if_neg (by omega), if_neg (by omega), if_pos k] at h6
  have hz:=orl_zero h6
  have c1:=set_len (hz (setE r.left p.states.length) (by simp))
  have c2:=set_len (hz (setE r.right p.states.length) (by simp))
  have c3:=set_len (hz (setE r.parent p.states.length) (by simp))
  omega
 ·omega
theorem nms_small {p : Pro} (h : nmsB (allN p)) : ¬ bigNs p.states ∧ ¬ bigNs p.messages ∧ ¬ bigNs p.values:=by
 have key : ∀ s ∈ allN p, s.size ≤ 12:=by
  intro s hs
  obtain ⟨j, hj, e⟩:=List.getElem_of_mem hs
  have:=(h j hj).1.1.2
  rwa [gD, gL hj, Option.getD_some, e] at this
 have go : ∀ l : List ByteArray, (∀ s ∈ l, s ∈ allN p) → ¬ bigNs l:=by
  rintro l hl ⟨j, hj, hlt⟩
  have:=key _ (hl _ (mem_getD (l:=l) t0 hj))
  omega
 refine ⟨go _ fun s hs=>?_, go _ fun s hs=>?_, go _ fun s hs=>?_⟩ <;> simp [allN, hs]
theorem not_big {p : Pro} (h : validE p = 0) : ¬ bigP p:=by
 have v:=vld_of h
 have h1:=v.name.1.2
 have h2:=set_len v.ini.1
 have h3:=set_len v.ini.2.2
 have h4:=v.len
 obtain ⟨n1, n2, n3⟩:=nms_small v.nms
 have h5 : ¬ ∃ j, j < p.rules.length ∧ bigR (p.rules.getD j rul0):=fun ⟨j, hj, hb⟩=>rule_small ⟨h4.1, h4.2.1, h4.2.2.1⟩ (v.rul j hj) hb
 unfold bigP
 rintro (h | h | h | h | h | h | h | h | h | h | h | h)
 any_goals omega
 all_goals first | exact h5 h | exact n1 h | exact n2 h | exact n3 h
structure Vlq (p : Pro) (q : Prp) : Prop where
 vld : validE p = 0
 name : validN q.name
 kind : q.kind = 1 ∨ q.kind = 2
 shp : ¬ ((q.kind = 1 ∧ 0 < q.goal.length) ∨ (q.kind = 2 ∧ (0 < q.bad.length ∨ 0 < q.adjacent.length)))
 start : setE q.start p.states.length = 0
 ini : ∀ j, j < q.start.length → q.start.getD j 0 ∈ p.initial
 goal : q.kind = 2 → setE q.goal p.states.length = 0 ∧ 0 < q.goal.length
 bad : q.kind = 1 → q.bad.length ≤ 3 ∧ cntsE p.states.length q.bad = 0 ∧ adjE p q.adjacent = 0 ∧ ¬ (q.bad.length = 0 ∧ q.adjacent.length = 0)
theorem vlq_of {p : Pro} {q : Prp} (h : propE p q = 0) : Vlq p q:=by
 unfold propE at h
 by_cases h1 : validE p ≠ 0
 ·rw [if_pos h1] at h; omega
 rw [if_neg h1] at h
 by_cases h2 : ¬ validN q.name
 ·rw [if_pos h2] at h; omega
 rw [if_neg h2] at h
 by_cases h3 : q.kind ≠ 1 ∧ q.kind ≠ 2
 ·rw [if_pos h3] at h; omega
 rw [if_neg h3] at h
 by_cases h4 : (q.kind = 1 ∧ 0 < q.goal.length) ∨ (q.kind = 2 ∧ (0 < q.bad.length ∨ 0 < q.adjacent.length))
 ·rw [if_pos h4] at h; omega
 rw [if_neg h4] at h
 by_cases h5 : setE q.start p.states.length ≠ 0
 ·rw [if_pos h5] at h; omega
 rw [if_neg h5] at h
 by_cases h6 : ¬ (∀ j, j < q.start.length → q.start.getD j 0 ∈ p.initial)
 ·rw [if_pos h6] at h; omega
 rw [if_neg h6] at h
 refine ⟨by omega, Classical.not_not.1 h2, by omega, h4, by omega, Classical.not_not.1 h6, fun k=>?_, fun k=>?_⟩
 ·rw [if_pos k] at h
  have hz:=orl_zero h
  have a:=hz (if q.goal.length = 0 then 1 else 0) (by simp)
  refine ⟨hz _ (by simp), ?_⟩
  split at a <;> omega
 ·rw [if_neg (by omega)] at h
  have hz:=orl_zero h
  have a:=hz (if q.bad.length = 0 ∧ q.adjacent.length = 0 then 1 else 0) (by simp)
  have b:=hz (if 3 < q.bad.length then 4 else 0) (by simp)
  refine ⟨?_, hz _ (by simp), hz _ (by simp), ?_⟩
  ·split at b <;> omega
  ·split at a
   ·omega
   ·assumption
theorem cnt_parts {p : Pro} {q : Prp} (h : Vlq p q) (k : q.kind = 1) {j : Nat} (hj : j < q.bad.length) : setE (q.bad.getD j cnt0).states p.states.length = 0 ∧ 0 < (q.bad.getD j cnt0).states.length ∧ 1 ≤ (q.bad.getD j cnt0).least ∧ (q.bad.getD j cnt0).least ≤ 3:=by
 have hz:=orl_zero (h.bad k).2.1
 have hc:=orl_zero (hz (cntE p.states.length (q.bad.getD j cnt0)) (List.mem_map.2 ⟨_, mem_getD _ hj, rfl⟩))
 have a:=hc (if (q.bad.getD j cnt0).states.length = 0 ∨ (q.bad.getD j cnt0).least < 1 ∨ 3 < (q.bad.getD j cnt0).least then 1 else 0) (by simp)
 refine ⟨hc _ (by simp), ?_⟩
 split at a <;> omega
theorem not_bigq {p : Pro} {q : Prp} (h : propE p q = 0) : ¬ bigQ q:=by
 have v:=vlq_of h
 have h1:=v.name.1.2
 have hs:=(vld_of v.vld).len
 have h2:=set_len v.start
 have h3 : q.goal.length ≤ 6:=by
  rcases v.kind with k | k
  ·have:=v.shp; omega
  ·have:=set_len (v.goal k).1; omega
 have h4 : q.bad.length ≤ 3 ∧ q.adjacent.length ≤ 2:=by
  rcases v.kind with k | k
  ·refine ⟨(v.bad k).1, ?_⟩
   have ha:=(v.bad k).2.2.1
   unfold adjE at ha
   split at ha
   ·omega
   ·split at ha
    ·omega
    ·split at ha <;> omega
  ·have:=v.shp; omega
 have h5 : ¬ ∃ j, j < q.bad.length ∧ 60 < (q.bad.getD j cnt0).states.length:=by
  rintro ⟨j, hj, hb⟩
  rcases v.kind with k | k
  ·have:=set_len (cnt_parts v k hj).1; omega
  ·have:=v.shp; omega
 unfold bigQ
 rintro (h | h | h | h | h | h)
 any_goals omega
 exact h5 h
structure Vb where
 kind : Int
 seg : Int
 idx : Int
theorem vb_ext {a b : Vb} (h1 : a.kind = b.kind) (h2 : a.seg = b.seg) (h3 : a.idx = b.idx) : a = b:=by
 cases a; cases b; cases h1; cases h2; cases h3; rfl
instance decVb : DecidableEq Vb:=fun a b =>
 if h : a.kind = b.kind ∧ a.seg = b.seg ∧ a.idx = b.idx then isTrue (vb_ext h.1 h.2.1 h.2.2) else isFalse (fun e=>h (by rw [e]; exact ⟨rfl, rfl, rfl⟩))
def vb0 : Vb:=⟨0, 0, 0⟩
def encVb (v : Vb) : List AV:=[.int .i64 v.kind, .int .i64 v.seg, .int .i64 v.idx]
def stL' (p : Pro) (q : Prp) : List Int:=if 0 < q.start.length then q.start else p.initial
def riseB (r : Rul) : Prop:=r.kind = 1 ∧ r.src < r.dst ∧ r.some_.length = 0 ∧ r.forall_.length = 0
instance (r : Rul) : Decidable (riseB r):=inferInstanceAs (Decidable (_ ∧ _))
def thrB (p : Pro) : Prop:=p.topology = 1 ∧ p.values.length = 0 ∧ ∀ j, j < p.rules.length → riseB (p.rules.getD j rul0)
instance (p : Pro) : Decidable (thrB p):=inferInstanceAs (Decidable (_ ∧ _))
def scopeB (p : Pro) (q : Prp) : Prop:=q.kind = 2 → ∀ j, j < p.rules.length → (p.rules.getD j rul0).src ∈ q.goal → (p.rules.getD j rul0).dst ∈ q.goal
instance (p : Pro) (q : Prp) : Decidable (scopeB p q):=inferInstanceAs (Decidable (_ → _))
def csK (rs : List Rul) : Nat → Nat
 |0=>1
 |k + 1=>csK rs k * (1 + (rs.getD k rul0).guards.length)
def csN (p : Pro) (q : Prp) : Nat:=if q.kind = 2 then csK p.rules p.rules.length else 1
def chkE (p : Pro) (q : Prp) : Int:=if propE p q ≠ 0 then propE p q else if ¬ (thrB p ∧ scopeB p q) then 7 else if 64 < csN p q then 4 else 0
theorem csK_le {rs : List Rul} (h : ∀ j, j < rs.length → (rs.getD j rul0).guards.length ≤ 2) : ∀ k, k ≤ rs.length → csK rs k ≤ 3 ^ k
 |0, _=>by simp [csK]
 |k + 1, hk=>by
  have a:=csK_le h k (by omega)
  have b:=h k (by omega)
  rw [csK, Nat.pow_succ]
  exact Nat.mul_le_mul a (by omega)
def schB (n : Nat) (l : List Int) : Prop:=∀ i, i < l.length → (0 ≤ l.getD i 0 ∧ l.getD i 0 < n) ∧ l.getD i 0 ∉ l.take i
instance (n : Nat) (l : List Int) : Decidable (schB n l):=inferInstanceAs (Decidable (∀ i, i < l.length → _))
theorem nodup_fresh {l : List Int} (h : ∀ i, i < l.length → l.getD i 0 ∉ l.take i) : l.Nodup:=by
 rw [List.nodup_iff_pairwise_ne, List.pairwise_iff_getElem]
 intro i j hi hj hij e
 have:=h j hj
 rw [getD_elem 0 hj, ← e] at this
 exact this (List.mem_take_iff_getElem.2 ⟨i, by omega, rfl⟩)
theorem nodup_len : ∀ {n : Nat} {l : List Int}, l.Nodup → (∀ x ∈ l, 0 ≤ x ∧ x < n) → l.length ≤ n
 |0, l, _, hb=>by
  cases l with
  |nil=>simp
  |cons a l=>have:=hb a (by simp); omega
 |n + 1, l, hn, hb=>by
  have h1 : (l.erase (n : Int)).length ≤ n:=nodup_len (hn.erase _) fun x hx=>by
   have a:=hb x (List.mem_of_mem_erase hx)
   have b : x ≠ n:=fun e=>by subst e; exact (List.Nodup.not_mem_erase hn) hx
   omega
  have h2 : l.length ≤ (l.erase (n : Int)).length + 1:=by
   rw [List.length_erase]; split <;> omega
  omega
theorem sch_nodup {n : Nat} {l : List Int} (h : schB n l) : l.Nodup:=nodup_fresh fun i hi=>(h i hi).2
theorem sch_len {n : Nat} {l : List Int} (h : schB n l) : l.length ≤ n:=nodup_len (sch_nodup h) fun x hx=>by
 obtain ⟨i, hi, e⟩:=List.getElem_of_mem hx
 have:=(h i hi).1
 rwa [getD_elem 0 hi, e] at this
def xtL (k : Nat) : Nat → List Int → List (List Int)
 |0, at_=>[at_]
 |m + 1, at_=>at_ :: (List.range k).flatMap fun i : Nat=>if (i : Int) ∈ at_ then [] else xtL k m (at_ ++ [(i : Int)])
def schL (p : Pro) : List (List Int):=xtL (thrL p.rules).length (thrL p.rules).length []
def chN (rs : List Rul) (number : Nat) : Nat → Nat
 |0=>number
 |m + 1=>chN rs number m / (1 + (rs.getD (rs.length - 1 - m) rul0).guards.length)
def chD (rs : List Rul) (number i : Nat) : Nat:=chN rs number (rs.length - 1 - i) % (1 + (rs.getD i rul0).guards.length)
def chL (p : Pro) (number : Nat) : List Int:=(List.range p.rules.length).map fun i=>(chD p.rules number i : Int)
theorem chL_len (p : Pro) (number : Nat) : (chL p number).length = p.rules.length:=by simp [chL]
theorem chL_get {p : Pro} {number i : Nat} (h : i < p.rules.length) : (chL p number).getD i 0 = (chD p.rules number i : Int):=by
 rw [chL, getD_elem 0 (by simp; exact h)]; simp
theorem chD_le (rs : List Rul) (number i : Nat) : chD rs number i ≤ (rs.getD i rul0).guards.length:=by
 have:=Nat.mod_lt (chN rs number (rs.length - 1 - i)) (show 0 < 1 + (rs.getD i rul0).guards.length by omega)
 unfold chD; omega
def whB (p : Pro) : Prop:=p.fault = 1 ∨ p.fault = 2
instance (p : Pro) : Decidable (whB p):=inferInstanceAs (Decidable (_ ∨ _))
def allB (T : List Thr) (sch : List Int) (j : Nat) (r : Rul) : Prop:=∀ g ∈ r.guards, ∃ i, i < j ∧ T.getD (sch.getD i 0).toNat thr0 = g
instance (T : List Thr) (sch : List Int) (j : Nat) (r : Rul) : Decidable (allB T sch j r):=inferInstanceAs (Decidable (∀ g ∈ r.guards, _))
def ruV (p : Pro) (sch : List Int) (j r : Nat) : List Vb:=if allB (thrL p.rules) sch j (p.rules.getD r rul0) then (if whB p then [⟨5, j, r⟩, ⟨6, j, r⟩] else [⟨5, j, r⟩]) else []
def segV (p : Pro) (sch : List Int) (j k : Nat) : List Vb:=(List.range k).flatMap (ruV p sch j)
def stV (p : Pro) (q : Prp) : List Vb:=(stL' p q).map (fun x=>⟨3, 0, x⟩) ++ (if whB p then p.initial.map (fun x=>(⟨4, 0, x⟩ : Vb)) else [])
def varL (p : Pro) (q : Prp) (sch : List Int) : List Vb:=[⟨0, 0, 0⟩, ⟨1, 0, 0⟩, ⟨2, 0, 0⟩] ++ stV p q ++ (List.range (sch.length + 1)).flatMap fun j=>segV p sch j p.rules.length
theorem segV_up (p : Pro) (sch : List Int) (j k : Nat) : segV p sch j (k + 1) = segV p sch j k ++ ruV p sch j k:=by simp [segV, List.range_succ, List.flatMap_append]
theorem ruV_len (p : Pro) (sch : List Int) (j r : Nat) : (ruV p sch j r).length ≤ 2:=by unfold ruV; split <;> (try split) <;> simp
theorem segV_len (p : Pro) (sch : List Int) (j : Nat) : ∀ k, (segV p sch j k).length ≤ 2 * k
 |0=>by simp [segV]
 |k + 1=>by rw [segV_up, List.length_append]; have:=segV_len p sch j k; have:=ruV_len p sch j k; omega
theorem segs_len (p : Pro) (sch : List Int) (m : Nat) : ∀ k, ((List.range k).flatMap fun j=>segV p sch j m).length ≤ 2 * m * k
 |0=>by simp
 |k + 1=>by
  rw [List.range_succ, List.flatMap_append, List.length_append]
  have a:=segs_len p sch m k
  have b:=segV_len p sch k m
  simp only [List.flatMap_cons, List.flatMap_nil, List.append_nil]
  rw [Nat.mul_add, Nat.mul_one]
  omega
theorem ruV_mem {p : Pro} {sch : List Int} {j r : Nat} {v : Vb} (h : v ∈ ruV p sch j r) : (v.kind = 5 ∨ v.kind = 6 ∧ whB p) ∧ v.seg = j ∧ v.idx = r ∧ allB (thrL p.rules) sch j (p.rules.getD r rul0):=by
 unfold ruV at h
 split at h
 ·rename_i ha
  split at h
  ·rename_i hw
   simp only [List.mem_cons, List.not_mem_nil, or_false] at h
   rcases h with rfl | rfl
   ·exact ⟨.inl rfl, rfl, rfl, ha⟩
   ·exact ⟨.inr ⟨rfl, hw⟩, rfl, rfl, ha⟩
  ·simp only [List.mem_cons, List.not_mem_nil, or_false] at h
   subst h
   exact ⟨.inl rfl, rfl, rfl, ha⟩
 ·simp at h
theorem ruV_nodup (p : Pro) (sch : List Int) (j r : Nat) : (ruV p sch j r).Nodup:=by
 unfold ruV
 split
 ·split
  ·simp
  ·simp
 ·simp
theorem segV_mem {p : Pro} {sch : List Int} {j k : Nat} {v : Vb} (h : v ∈ segV p sch j k) : ∃ r, r < k ∧ v ∈ ruV p sch j r:=by
 unfold segV at h
 obtain ⟨r, hr, hv⟩:=List.mem_flatMap.1 h
 exact ⟨r, List.mem_range.1 hr, hv⟩
theorem segV_nodup (p : Pro) (sch : List Int) (j : Nat) : ∀ k, (segV p sch j k).Nodup
 |0=>by simp [segV]
 |k + 1=>by
  rw [segV_up, List.nodup_append]
  refine ⟨segV_nodup p sch j k, ruV_nodup p sch j k, fun a ha b hb e=>?_⟩
  obtain ⟨r, hr, ha⟩:=segV_mem ha
  have:=(ruV_mem ha).2.2.1
  have:=(ruV_mem hb).2.2.1
  subst e
  omega
theorem segs_nodup (p : Pro) (sch : List Int) (m : Nat) : ∀ k, ((List.range k).flatMap fun j=>segV p sch j m).Nodup
 |0=>by simp
 |k + 1=>by
  rw [List.range_succ, List.flatMap_append, List.nodup_append]
  simp only [List.flatMap_cons, List.flatMap_nil, List.append_nil]
  refine ⟨segs_nodup p sch m k, segV_nodup p sch k m, fun a ha b hb e=>?_⟩
  obtain ⟨j, hj, ha⟩:=List.mem_flatMap.1 ha
  have hj:=List.mem_range.1 hj
  obtain ⟨r, _, ha⟩:=segV_mem ha
  obtain ⟨r', _, hb⟩:=segV_mem hb
  have:=(ruV_mem ha).2.1
  have:=(ruV_mem hb).2.1
  subst e
  omega
theorem set_nodup {l : List Int} {n : Int} (h : setE l n = 0) : l.Nodup:=by
 obtain ⟨_, h2⟩:=set_iff h
 have key : ∀ (k i : Nat), i < k → k < l.length → l.getD i 0 < l.getD k 0:=by
  intro k
  induction k with
  |zero=>intro i hi; omega
  |succ k ih =>
   intro i hi hk
   have h1:=h2 (k + 1) hk (by omega)
   rw [Nat.add_sub_cancel] at h1
   by_cases e : i = k
   ·subst e; exact h1
   ·have:=ih i (by omega) (by omega); omega
 rw [List.nodup_iff_pairwise_ne, List.pairwise_iff_getElem]
 intro i j hi hj hij e
 have:=key j i hij hj
 rw [getD_elem 0 hi, getD_elem 0 hj, e] at this
 omega
theorem map_nodup {l : List Int} {f : Int → Vb} (h : l.Nodup) (hf : ∀ a b, f a = f b → a = b) : (l.map f).Nodup:=by
 rw [List.nodup_iff_pairwise_ne] at *
 exact List.pairwise_map.2 (h.imp fun hab e=>hab (hf _ _ e))
theorem varL_nodup {p : Pro} {q : Prp} (h : propE p q = 0) (sch : List Int) : (varL p q sch).Nodup:=by
 have v:=vlq_of h
 have hs : (stL' p q).Nodup:=by
  unfold stL'; split
  ·exact set_nodup v.start
  ·exact set_nodup (vld_of v.vld).ini.1
 have hst : (stV p q).Nodup:=by
  unfold stV
  rw [List.nodup_append]
  refine ⟨map_nodup hs fun a b e=>by injection e, ?_, fun a ha b hb e=>?_⟩
  ·split
   ·exact map_nodup (set_nodup (vld_of v.vld).ini.1) fun a b e=>by injection e
   ·simp
  ·obtain ⟨x, _, rfl⟩:=List.mem_map.1 ha
   split at hb
   ·obtain ⟨y, _, rfl⟩:=List.mem_map.1 hb
    injection e with e1
    omega
   ·simp at hb
 have hk : ∀ a ∈ stV p q, a.kind = 3 ∨ a.kind = 4:=by
  intro a ha
  unfold stV at ha
  rcases List.mem_append.1 ha with ha | ha
  ·obtain ⟨x, _, rfl⟩:=List.mem_map.1 ha; exact .inl rfl
  ·split at ha
   ·obtain ⟨x, _, rfl⟩:=List.mem_map.1 ha; exact .inr rfl
   ·simp at ha
 have hk2 : ∀ a ∈ ((List.range (sch.length + 1)).flatMap fun j=>segV p sch j p.rules.length), a.kind = 5 ∨ a.kind = 6:=by
  intro a ha
  obtain ⟨j, _, ha⟩:=List.mem_flatMap.1 ha
  obtain ⟨r, _, ha⟩:=segV_mem ha
  have:=(ruV_mem ha).1
  omega
 unfold varL
 rw [List.nodup_append, List.nodup_append]
 refine ⟨⟨by simp, hst, fun a ha b hb e=>?_⟩, segs_nodup p sch _ _, fun a ha b hb e=>?_⟩
 ·subst e
  have:=hk a hb
  simp only [List.mem_cons, List.not_mem_nil, or_false] at ha
  rcases ha with rfl | rfl | rfl <;> simp at this
 ·subst e
  have h2:=hk2 a hb
  rcases List.mem_append.1 ha with ha | ha
  ·simp only [List.mem_cons, List.not_mem_nil, or_false] at ha
   rcases ha with rfl | rfl | rfl <;> simp at h2
  ·have:=hk a ha; omega
theorem stV_len {p : Pro} {q : Prp} (h : propE p q = 0) : (stV p q).length ≤ 12:=by
 have v:=vlq_of h
 have w:=vld_of v.vld
 have a:=set_len v.start
 have b:=set_len w.ini.1
 have c:=w.len
 unfold stV stL'
 rw [List.length_append, List.length_map]
 split <;> split <;> simp <;> omega
theorem varL_len {p : Pro} {q : Prp} (h : propE p q = 0) {sch : List Int} (hs : schB (thrL p.rules).length sch) : (varL p q sch).length ≤ 79:=by
 have w:=vld_of (vlq_of h).vld
 have a:=stV_len h
 have b:=segs_len p sch p.rules.length (sch.length + 1)
 have c:=sch_len hs
 have d:=w.thr
 have e:=w.len
 have f : 2 * p.rules.length * (sch.length + 1) ≤ 16 * 4:=Nat.mul_le_mul (by omega) (by omega)
 unfold varL
 rw [List.length_append, List.length_append]
 simp only [List.length_cons, List.length_nil]
 omega
abbrev Co:=Vb → Int
def zC : Co:=fun _=>0
def addC (c : Co) (v0 : Vb) (k : Int) : Co:=fun v=>if v = v0 then c v + k else c v
theorem addC_same (c : Co) (v : Vb) (k : Int) : addC c v k v = c v + k:=by simp [addC]
theorem addC_ne (c : Co) {v v0 : Vb} (k : Int) (h : v ≠ v0) : addC c v0 k v = c v:=by simp [addC, h]
theorem row_get (c : Co) {vars : List Vb} {m : Nat} (hm : m < vars.length) : (vars.map c).getD m 0 = c (vars.getD m vb0):=by
 rw [getD_elem 0 (by simpa using hm), getD_elem vb0 hm, List.getElem_map]
theorem row_skip (c : Co) {vars : List Vb} {v0 : Vb} (k : Int) (h : v0 ∉ vars) : vars.map (addC c v0 k) = vars.map c :=
 List.map_congr_left fun v hv=>addC_ne c k fun e=>h (e ▸ hv)
theorem row_add (c : Co) {vars : List Vb} {m : Nat} (k : Int) (hn : vars.Nodup) (hm : m < vars.length) : (vars.map c).set m (c (vars.getD m vb0) + k) = vars.map (addC c (vars.getD m vb0) k):=by
 generalize e0 : vars.getD m vb0 = v0
 have e0 : vars[m] = v0:=by rw [← e0, getD_elem vb0 hm]
 apply List.ext_getElem
 ·simp
 ·intro i h1 h2
  rw [List.getElem_set, List.getElem_map]
  by_cases e : m = i
  ·subst e; rw [if_pos rfl, List.getElem_map, e0, addC_same]
  ·rw [if_neg e, List.getElem_map, addC_ne]
   exact fun e2=>e ((List.getElem_inj hn).1 (e0.trans e2.symm))
noncomputable def plN (vars : List Vb) (kind : Int) : Nat → Int × Int → Option Int
 |0=>fun _=>none
 |n + 1=>if (vars.getD n vb0).kind = kind then updF (plN vars kind n) ((vars.getD n vb0).seg, (vars.getD n vb0).idx) (n : Int) else plN vars kind n
theorem plN_some {vars : List Vb} {kind s i : Int} : ∀ {n : Nat} {j : Int}, plN vars kind n (s, i) = some j → ∃ m : Nat, j = m ∧ m < n ∧ vars.getD m vb0 = ⟨kind, s, i⟩
 |0, j, h=>by cases h
 |n + 1, j, h=>by
  rw [plN] at h
  split at h
  ·rename_i hk
   by_cases e : (s, i) = ((vars.getD n vb0).seg, (vars.getD n vb0).idx)
   ·rw [e, updF_same] at h
    cases h
    injection e with e1 e2
    exact ⟨n, rfl, by omega, vb_ext hk e1.symm e2.symm⟩
   ·rw [updF_ne _ _ e] at h
    obtain ⟨m, a, b, c⟩:=plN_some h
    exact ⟨m, a, by omega, c⟩
  ·obtain ⟨m, a, b, c⟩:=plN_some h
   exact ⟨m, a, by omega, c⟩
theorem plN_none {vars : List Vb} {kind s i : Int} : ∀ {n : Nat}, plN vars kind n (s, i) = none → ∀ m, m < n → vars.getD m vb0 ≠ ⟨kind, s, i⟩
 |0, _, m, hm=>by omega
 |n + 1, h, m, hm=>by
  rw [plN] at h
  by_cases e : m = n
  ·subst e
   intro e2
   rw [e2, if_pos rfl, updF_same] at h
   cases h
  ·split at h
   ·rename_i hk
    by_cases e : (s, i) = ((vars.getD n vb0).seg, (vars.getD n vb0).idx)
    ·rw [e, updF_same] at h; cases h
    ·rw [updF_ne _ _ e] at h
     exact plN_none h m (by omega)
   ·exact plN_none h m (by omega)
theorem plN_notin {vars : List Vb} {kind s i : Int} (h : plN vars kind vars.length (s, i) = none) : (⟨kind, s, i⟩ : Vb) ∉ vars:=by
 intro hm
 obtain ⟨m, hm, e⟩:=List.getElem_of_mem hm
 exact plN_none h m hm (by rw [getD_elem vb0 hm, e])
def linC (l : Lin) : Co:=fun v=>if v = ⟨0, 0, 0⟩ then l.n else if v = ⟨1, 0, 0⟩ then l.t else if v = ⟨2, 0, 0⟩ then l.f else 0
def scC (c : Co) (k : Int) (d : Co) : Co:=fun v=>c v + k * d v
def firB (n : Nat) (fire : Int) (j i : Nat) (v : Vb) : Prop:=v.kind = fire ∧ 0 ≤ v.seg ∧ 0 ≤ v.idx ∧ (v.seg < j ∧ v.idx < n ∨ v.seg = j ∧ v.idx < i)
instance (n : Nat) (fire : Int) (j i : Nat) (v : Vb) : Decidable (firB n fire j i v):=inferInstanceAs (Decidable (_ ∧ _))
def dlt (rs : List Rul) (state : Int) (v : Vb) : Int:=(if (rs.getD v.idx.toNat rul0).dst = state then 1 else 0) - (if (rs.getD v.idx.toNat rul0).src = state then 1 else 0)
def aftS (rs : List Rul) (start fire state : Int) (j i : Nat) : Co:=fun v=>(if v = ⟨start, 0, state⟩ then 1 else 0) + if firB rs.length fire j i v then dlt rs state v else 0
def sntS (rs : List Rul) (fire message : Int) (j i : Nat) : Co:=fun v=>if firB rs.length fire j i v ∧ message ∈ (rs.getD v.idx.toNat rul0).send then 1 else 0
theorem fir_next (n : Nat) (fire : Int) (j i : Nat) (v : Vb) : firB n fire j (i + 1) v ↔ firB n fire j i v ∨ v = ⟨fire, j, i⟩:=by
 unfold firB
 constructor
 ·rintro ⟨h1, h2, h3, h4⟩
  by_cases e : v.seg = j ∧ v.idx = i
  ·exact .inr (vb_ext h1 e.1 e.2)
  ·exact .inl ⟨h1, h2, h3, by omega⟩
 ·rintro (⟨h1, h2, h3, h4⟩ | rfl)
  ·exact ⟨h1, h2, h3, by omega⟩
  ·refine ⟨rfl, ?_, ?_, ?_⟩ <;> dsimp only <;> omega
theorem fir_not (n : Nat) (fire : Int) (j i : Nat) : ¬ firB n fire j i ⟨fire, j, i⟩:=by unfold firB; dsimp only; omega
theorem fir_end (n : Nat) (fire : Int) (j : Nat) (v : Vb) : firB n fire j n v ↔ firB n fire (j + 1) 0 v:=by unfold firB; omega
theorem aft_end (rs : List Rul) (start fire state : Int) (j : Nat) : aftS rs start fire state j rs.length = aftS rs start fire state (j + 1) 0:=by
 funext v; unfold aftS; simp only [fir_end]
theorem snt_end (rs : List Rul) (fire message : Int) (j : Nat) : sntS rs fire message j rs.length = sntS rs fire message (j + 1) 0:=by
 funext v; unfold sntS; simp only [fir_end]
theorem aft_b (rs : List Rul) (start fire state : Int) (j i : Nat) (v : Vb) : -1 ≤ aftS rs start fire state j i v ∧ aftS rs start fire state j i v ≤ 2:=by
 unfold aftS dlt
 (repeat' split) <;> omega
theorem snt_b (rs : List Rul) (fire message : Int) (j i : Nat) (v : Vb) : 0 ≤ sntS rs fire message j i v ∧ sntS rs fire message j i v ≤ 1:=by
 unfold sntS
 split <;> omega
theorem snt_next (rs : List Rul) (fire message : Int) (j i : Nat) (c : Co) (k : Int) : scC c k (sntS rs fire message j (i + 1)) = if message ∈ (rs.getD i rul0).send then addC (scC c k (sntS rs fire message j i)) ⟨fire, j, i⟩ k else scC c k (sntS rs fire message j i):=by
 funext v
 by_cases e : v = ⟨fire, j, i⟩
 ·subst e
  by_cases hm : message ∈ (rs.getD i rul0).send
  ·rw [if_pos hm, addC_same]
   unfold scC sntS
   rw [if_pos ⟨(fir_next _ _ _ _ _).2 (.inr rfl), by simpa using hm⟩, if_neg (fun h=>fir_not _ _ _ _ h.1)]
   omega
  ·rw [if_neg hm]
   unfold scC sntS
   rw [if_neg (fun h=>hm (by simpa using h.2)), if_neg (fun h=>fir_not _ _ _ _ h.1)]
 ·have a : firB rs.length fire j (i + 1) v ↔ firB rs.length fire j i v:=by rw [fir_next]; simp [e]
  have b : scC c k (sntS rs fire message j (i + 1)) v = scC c k (sntS rs fire message j i) v:=by unfold scC sntS; simp only [a]
  rw [b]
  split
  ·rw [addC_ne _ _ e]
  ·rfl
def stepA (rs : List Rul) (c : Co) (k state fire : Int) (j i : Nat) : Co :=
 let c1:=if (rs.getD i rul0).dst = state then addC c ⟨fire, j, i⟩ k else c
 if (rs.getD i rul0).src = state then addC c1 ⟨fire, j, i⟩ (-k) else c1
theorem aft_next (rs : List Rul) (start fire state : Int) (j i : Nat) (c : Co) (k : Int) : scC c k (aftS rs start fire state j (i + 1)) = stepA rs (scC c k (aftS rs start fire state j i)) k state fire j i:=by
 funext v
 unfold stepA
 by_cases e : v = ⟨fire, j, i⟩
 ·subst e
  have h1:=(fir_next rs.length fire j i ⟨fire, j, i⟩).2 (.inr rfl)
  have h2:=fir_not rs.length fire j i
  have e2 : (⟨fire, j, i⟩ : Vb).idx.toNat = i:=by simp
  have key : scC c k (aftS rs start fire state j (i + 1)) ⟨fire, j, i⟩ = scC c k (aftS rs start fire state j i) ⟨fire, j, i⟩ + k * dlt rs state ⟨fire, j, i⟩:=by
   unfold scC aftS
   rw [if_pos h1, if_neg h2, Int.mul_add, Int.mul_add]
   omega
  rw [key]
  unfold dlt
  rw [e2]
  by_cases hd : (rs.getD i rul0).dst = state <;> by_cases hs : (rs.getD i rul0).src = state <;> simp only [hd, hs, if_pos, if_neg, if_true, if_false, addC_same, not_false_eq_true] <;> omega
 ·have a : firB rs.length fire j (i + 1) v ↔ firB rs.length fire j i v:=by rw [fir_next]; simp [e]
  have b : scC c k (aftS rs start fire state j (i + 1)) v = scC c k (aftS rs start fire state j i) v:=by unfold scC aftS; simp only [a]
  rw [b]
  split <;> split <;> simp only [addC_ne _ _ e]
theorem lin_add (c : Co) (k : Int) (l : Lin) : addC (addC (addC c ⟨0, 0, 0⟩ (k * l.n)) ⟨1, 0, 0⟩ (k * l.t)) ⟨2, 0, 0⟩ (k * l.f) = scC c k (linC l):=by
 funext v
 unfold addC scC linC
 by_cases h0 : v = ⟨0, 0, 0⟩
 ·subst h0; simp
 ·by_cases h1 : v = ⟨1, 0, 0⟩
  ·subst h1; simp
  ·by_cases h2 : v = ⟨2, 0, 0⟩
   ·subst h2; simp
   ·simp [h0, h1, h2]
def stC (kind : Int) (n : Nat) : Co:=fun v=>if v.kind = kind ∧ v.seg = 0 ∧ 0 ≤ v.idx ∧ v.idx < n then 1 else 0
theorem st_next (kind : Int) (n : Nat) (c : Co) (k : Int) : scC c k (stC kind (n + 1)) = addC (scC c k (stC kind n)) ⟨kind, 0, n⟩ k:=by
 funext v
 by_cases e : v = ⟨kind, 0, n⟩
 ·subst e
  rw [addC_same]
  unfold scC stC
  rw [if_pos ⟨rfl, rfl, by dsimp only; omega, by dsimp only; omega⟩, if_neg (by dsimp only; omega)]
  omega
 ·rw [addC_ne _ _ e]
  unfold scC stC
  have h : (v.kind = kind ∧ v.seg = 0 ∧ 0 ≤ v.idx ∧ v.idx < (n + 1 : Nat)) ↔ (v.kind = kind ∧ v.seg = 0 ∧ 0 ≤ v.idx ∧ v.idx < n):=by
   constructor
   ·intro h
    have : v.idx ≠ n:=fun h2=>e (vb_ext h.1 h.2.1 h2)
    omega
   ·intro h; omega
  simp only [h]
abbrev Rw:=Co × Int
def rwL (vars : List Vb) (r : Rw) : Row:=⟨vars.map r.1, r.2⟩
def parW (l : Lin) : Rw:=(linC l, l.c)
def staW (kind : Int) (n : Nat) (k : Int) (l : Lin) : Rw:=(scC (scC zC k (stC kind n)) (-k) (linC l), -k * l.c)
def guaW (p : Pro) (g : Thr) (j : Nat) : Rw :=
 let c1:=scC (scC zC g.coef (sntS p.rules 5 g.message j 0)) g.coef (sntS p.rules 6 g.message j 0)
 let c2:=if p.fault = 3 then addC c1 ⟨2, 0, 0⟩ g.coef else c1
 (scC c2 (-1) (linC g.bound), -g.bound.c)
def aftW (p : Pro) (start fire : Int) (x j : Nat) : Rw:=(scC zC 1 (aftS p.rules start fire x (j + 1) 0), 0)
def amgW (p : Pro) (seg : Nat) (states : List Int) (least : Int) : Rw:=(states.foldl (fun c x=>scC c 1 (aftS p.rules 3 5 x (seg + 1) 0)) zC, -least)
def idlW (p : Pro) (seg : Nat) (r : Rul) (ch : Int) : Rw :=
 if ch = 0 then (scC zC (-1) (aftS p.rules 3 5 r.src (seg + 1) 0), 0)
 else
  let g:=r.guards.getD (ch - 1).toNat thr0
  let c1:=scC zC (-g.coef) (sntS p.rules 5 g.message (seg + 1) 0)
  let c2:=if p.fault = 1 then scC c1 (-g.coef) (sntS p.rules 6 g.message (seg + 1) 0) else c1
  (scC c2 1 (linC g.bound), g.bound.c - 1)
def parL (p : Pro) : List Lin:=[⟨-1, 1, 0, 0⟩, ⟨0, 1, -1, 0⟩, ⟨0, 1, 0, -1⟩] ++ (if p.fault = 0 then [⟨0, 0, -1, 0⟩, ⟨0, 0, 0, -1⟩] else []) ++ p.resilience
def staL (p : Pro) : List Rw:=[staW 3 p.states.length 1 ⟨0, 1, 0, -1⟩, staW 3 p.states.length (-1) ⟨0, 1, 0, -1⟩] ++ if whB p then [staW 4 p.states.length 1 ⟨0, 0, 0, 1⟩, staW 4 p.states.length (-1) ⟨0, 0, 0, 1⟩] else []
def segL (p : Pro) (sch : List Int) (j : Nat) : List Rw :=
 (if 0 < j then [guaW p ((thrL p.rules).getD (sch.getD (j - 1) 0).toNat thr0) j] else []) ++ ((List.range p.states.length).map fun x=>aftW p 3 5 x j) ++ (if whB p then (List.range p.states.length).map fun x=>aftW p 4 6 x j else [])
def outL (p : Pro) (q : Prp) : List Int:=((List.range p.states.length).map fun x : Nat=>(x : Int)).filter fun x=>decide (x ∉ q.goal)
def vioL (p : Pro) (q : Prp) (seg number : Nat) : List Rw :=
 if q.kind = 1 then q.bad.map fun c=>amgW p seg c.states c.least
 else amgW p seg (outL p q) 1 :: (List.range p.rules.length).map fun i=>idlW p seg (p.rules.getD i rul0) ((chL p number).getD i 0)
def sysL (p : Pro) (q : Prp) (sch : List Int) (number : Int) : List Rw :=
 (parL p).map parW ++ staL p ++ ((List.range (sch.length + 1)).flatMap (segL p sch)) ++ if 0 ≤ number then vioL p q sch.length number.toNat else []
def rowsB (p : Pro) (q : Prp) (sch : List Int) (number : Int) : List Row:=(sysL p q sch number).map (rwL (varL p q sch))
def vkB (p : Pro) (sch : List Int) (v : Vb) : Prop :=
 (v = ⟨0, 0, 0⟩ ∨ v = ⟨1, 0, 0⟩ ∨ v = ⟨2, 0, 0⟩) ∨ ((v.kind = 3 ∨ v.kind = 4 ∧ whB p) ∧ v.seg = 0 ∧ 0 ≤ v.idx ∧ v.idx < p.states.length) ∨
 ((v.kind = 5 ∨ v.kind = 6 ∧ whB p) ∧ (0 ≤ v.seg ∧ v.seg ≤ sch.length) ∧ 0 ≤ v.idx ∧ v.idx < p.rules.length)
theorem set_in {l : List Int} {n : Int} (h : setE l n = 0) : ∀ x ∈ l, 0 ≤ x ∧ x < n:=by
 intro x hx
 obtain ⟨i, hi, e⟩:=List.getElem_of_mem hx
 have:=(set_iff h).1 i hi
 rwa [getD_elem 0 hi, e] at this
theorem st_in {p : Pro} {q : Prp} (h : propE p q = 0) : ∀ x ∈ stL' p q, 0 ≤ x ∧ x < p.states.length:=by
 have v:=vlq_of h
 unfold stL'
 split
 ·exact set_in v.start
 ·exact set_in (vld_of v.vld).ini.1
theorem var_kind {p : Pro} {q : Prp} {sch : List Int} (h : propE p q = 0) {v : Vb} (hv : v ∈ varL p q sch) : vkB p sch v:=by
 unfold varL at hv
 rcases List.mem_append.1 hv with hv | hv
 ·rcases List.mem_append.1 hv with hv | hv
  ·simp only [List.mem_cons, List.not_mem_nil, or_false] at hv
   exact .inl hv
  ·right; left
   unfold stV at hv
   rcases List.mem_append.1 hv with hv | hv
   ·obtain ⟨x, hx, rfl⟩:=List.mem_map.1 hv
    exact ⟨.inl rfl, rfl, st_in h x hx⟩
   ·split at hv
    ·rename_i hw
     obtain ⟨x, hx, rfl⟩:=List.mem_map.1 hv
     exact ⟨.inr ⟨rfl, hw⟩, rfl, set_in (vld_of (vlq_of h).vld).ini.1 x hx⟩
    ·simp at hv
 ·right; right
  obtain ⟨j, hj, hv⟩:=List.mem_flatMap.1 hv
  have hj:=List.mem_range.1 hj
  obtain ⟨r, hr, hv⟩:=segV_mem hv
  obtain ⟨a, b, c, _⟩:=ruV_mem hv
  exact ⟨a, by omega, by omega⟩
section
variable {p : Pro} {sch : List Int} {v : Vb}
end
def ordL (rs : List Rul) (ns : Nat) : List Int:=(List.range ns).flatMap fun x : Nat=>((List.range rs.length).filter fun r=>decide ((rs.getD r rul0).src = (x : Int))).map fun r : Nat=>(r : Int)
end Go.Proofs.YtnjggjhkfncnlaaGreatDoor
namespace Go.Proofs.YtnjggjhkfncnlaaGreatDoor
set_option maxRecDepth 100000
section
variable (k : Int → Int)
def kLt (a b : Int) : Prop:=k a < k b ∨ (k a = k b ∧ a < b)
def ordK (ns n : Nat) : List Int:=(List.range ns).flatMap fun x : Nat=>((List.range n).filter fun r : Nat=>decide (k (r : Int) = (x : Int))).map fun r : Nat=>(r : Int)
end
section
variable {k : Int → Int}
theorem pw_ext : ∀ {l m : List Int}, l.Pairwise (kLt k) → m.Pairwise (kLt k) → (∀ x, x ∈ l ↔ x ∈ m) → l = m
 |[], [], _, _, _=>rfl
 |[], b :: m, _, _, h=>by have:=(h b).2 List.mem_cons_self; cases this
 |a :: l, [], _, _, h=>by have:=(h a).1 List.mem_cons_self; cases this
 |a :: l, b :: m, h1, h2, h=>by
  rw [List.pairwise_cons] at h1 h2
  have e : a = b:=by
   rcases List.mem_cons.1 ((h a).1 List.mem_cons_self) with e | ha
   ·exact e
   ·rcases List.mem_cons.1 ((h b).2 List.mem_cons_self) with e | hb
    ·exact e.symm
    ·have x:=h2.1 a ha
     have y:=h1.1 b hb
     unfold kLt at x y
     omega
  subst e
  have irr : ¬ kLt k a a:=by unfold kLt; omega
  rw [pw_ext h1.2 h2.2 fun x=>⟨fun hx=>?_, fun hx=>?_⟩]
  ·rcases List.mem_cons.1 ((h x).1 (List.mem_cons_of_mem _ hx)) with rfl | hm
   ·exact absurd (h1.1 _ hx) irr
   ·exact hm
  ·rcases List.mem_cons.1 ((h x).2 (List.mem_cons_of_mem _ hx)) with rfl | hm
   ·exact absurd (h2.1 _ hx) irr
   ·exact hm
theorem ordK_mem {ns n : Nat} (h : ∀ r : Nat, r < n → 0 ≤ k r ∧ k r < ns) (x : Int) : x ∈ ordK k ns n ↔ ∃ r : Nat, r < n ∧ x = r:=by
 unfold ordK
 simp only [List.mem_flatMap, List.mem_map, List.mem_filter, List.mem_range, decide_eq_true_eq]
 constructor
 ·rintro ⟨_, _, r, ⟨hr, _⟩, rfl⟩; exact ⟨r, hr, rfl⟩
 ·rintro ⟨r, hr, rfl⟩
  have:=h r hr
  exact ⟨(k r).toNat, by omega, r, ⟨hr, by omega⟩, rfl⟩
theorem ordK_pw (ns n : Nat) : (ordK k ns n).Pairwise (kLt k):=by
 unfold ordK
 rw [List.pairwise_flatMap]
 refine ⟨fun x _=>?_, ?_⟩
 ·rw [List.pairwise_map]
  have h0 : (List.range n).Pairwise (· < ·):=List.pairwise_lt_range
  refine (List.Pairwise.filter _ h0).imp_of_mem fun {a b} ha hb hab=>?_
  have ha:=(List.mem_filter.1 ha).2
  have hb:=(List.mem_filter.1 hb).2
  simp only [decide_eq_true_eq] at ha hb
  unfold kLt
  omega
 ·have h0 : (List.range ns).Pairwise (· < ·):=List.pairwise_lt_range
  refine h0.imp fun {a b} hab x hx y hy=>?_
  obtain ⟨r, hr, rfl⟩:=List.mem_map.1 hx
  obtain ⟨s, hs, rfl⟩:=List.mem_map.1 hy
  have hr:=(List.mem_filter.1 hr).2
  have hs:=(List.mem_filter.1 hs).2
  simp only [decide_eq_true_eq] at hr hs
  unfold kLt
  omega
structure Ins (k : Int → Int) (i : Nat) (L : List Int) : Prop where
 len : L.length = i
 pw : L.Pairwise (kLt k)
 mem : ∀ x, x ∈ L ↔ ∃ r : Nat, r < i ∧ x = r
theorem Ins.one : Ins k 1 [0]:=⟨rfl, by simp, fun x=>by
 rw [List.mem_singleton]
 exact ⟨fun h=>⟨0, by omega, h⟩, fun ⟨r, hr, h⟩=>by rw [h, show r = 0 by omega]; rfl⟩⟩
theorem Ins.ext {n ns : Nat} {L : List Int} (h : Ins k n L) (hk : ∀ r : Nat, r < n → 0 ≤ k r ∧ k r < ns) : L = ordK k ns n :=
 pw_ext h.pw (ordK_pw ns n) fun x=>by rw [h.mem, ordK_mem hk]
theorem Ins.next {i j : Nat} {L : List Int} (h : Ins k i L) (hj : j ≤ i) (h1 : ∀ x ∈ L.drop j, k i < k x) (h2 : j = 0 ∨ k (L.getD (j - 1) 0) ≤ k i) : Ins k (i + 1) (L.take j ++ [(i : Int)] ++ L.drop j):=by
 have hl:=h.len
 have hsplit : L.take j ++ L.drop j = L:=List.take_append_drop j L
 have hpw : (L.take j ++ L.drop j).Pairwise (kLt k):=by rw [hsplit]; exact h.pw
 rw [List.pairwise_append] at hpw
 have hlow : ∀ x ∈ L.take j, kLt k x i:=by
  intro x hx
  have hxi : x < i:=by
   obtain ⟨r, hr, rfl⟩:=(h.mem x).1 (List.mem_of_mem_take hx)
   omega
  obtain ⟨a, ha, e⟩:=List.mem_take_iff_getElem.1 hx
  have hj0 : j ≠ 0:=by omega
  have h2:=h2.resolve_left hj0
  rw [getD_elem 0 (by omega)] at h2
  have hle : k x ≤ k (L[j - 1]'(by omega)):=by
   by_cases e2 : a = j - 1
   ·subst e2; rw [← e]; exact Int.le_refl _
   ·have:=List.pairwise_iff_getElem.1 h.pw a (j - 1) (by omega) (by omega) (by omega)
    rw [e] at this
    unfold kLt at this
    omega
  unfold kLt
  omega
 refine ⟨?_, ?_, fun x=>?_⟩
 ·simp only [List.length_append, List.length_take, List.length_cons, List.length_nil, List.length_drop]
  omega
 ·rw [List.pairwise_append, List.pairwise_append]
  refine ⟨⟨hpw.1, by simp, fun x hx y hy=>?_⟩, hpw.2.1, fun x hx y hy=>?_⟩
  ·rw [List.mem_singleton] at hy; subst hy; exact hlow x hx
  ·rcases List.mem_append.1 hx with hx | hx
   ·exact hpw.2.2 x hx y hy
   ·rw [List.mem_singleton] at hx; subst hx
    exact .inl (h1 y hy)
 ·rw [List.mem_append, List.mem_append, List.mem_singleton]
  have hm : (x ∈ L.take j ∨ x ∈ L.drop j) ↔ x ∈ L:=by rw [← List.mem_append, hsplit]
  constructor
  ·rintro ((hx | rfl) | hx)
   ·obtain ⟨r, hr, e⟩:=(h.mem x).1 (hm.1 (.inl hx)); exact ⟨r, by omega, e⟩
   ·exact ⟨i, by omega, rfl⟩
   ·obtain ⟨r, hr, e⟩:=(h.mem x).1 (hm.1 (.inr hx)); exact ⟨r, by omega, e⟩
  ·rintro ⟨r, hr, e⟩
   by_cases e2 : r = i
   ·subst e2; exact .inl (.inr e)
   ·rcases hm.2 ((h.mem x).2 ⟨r, by omega, e⟩) with hx | hx
    ·exact .inl (.inl hx)
    ·exact .inr hx
def insL (L R : List Int) (i : Int) (j : Nat) : List Int:=L.take j ++ [i] ++ L.drop j ++ R
theorem insL_len {L R : List Int} {i : Int} {j : Nat} (hj : j ≤ L.length) : (insL L R i j).length = L.length + 1 + R.length:=by
 unfold insL
 simp only [List.length_append, List.length_take, List.length_cons, List.length_nil, List.length_drop]
 omega
theorem insL_top (L R : List Int) (i : Int) : insL L R i L.length = L ++ i :: R:=by
 unfold insL
 simp
theorem insL_at {L R : List Int} {i : Int} {j : Nat} (hj : j ≤ L.length) : (insL L R i j).getD j 0 = i:=by
 unfold insL
 rw [List.append_assoc, List.append_assoc, gD, List.getElem?_append_right (by rw [List.length_take]; omega)]
 simp [Nat.min_eq_left hj]
theorem insL_below {L R : List Int} {i : Int} {j : Nat} (hj : j < L.length) : (insL L R i (j + 1)).getD j 0 = L.getD j 0:=by
 unfold insL
 rw [List.append_assoc, List.append_assoc, gD, List.getElem?_append_left (by simp; omega), List.getElem?_take, if_pos (by omega), ← gD]
theorem insL_swap {L R : List Int} {i : Int} {j : Nat} (hj : j < L.length) : ((insL L R i (j + 1)).set (j + 1) (L.getD j 0)).set j i = insL L R i j:=by
 have e1 : L.take (j + 1) = L.take j ++ [L.getD j 0]:=by
  rw [List.take_succ_eq_append_getElem hj, getD_elem 0 hj]
 have e2 : L.drop j = L.getD j 0 :: L.drop (j + 1):=by
  rw [List.drop_eq_getElem_cons hj, getD_elem 0 hj]
 unfold insL
 rw [e1, e2]
 generalize L.getD j 0 = x
 have hl : (L.take j).length = j:=by rw [List.length_take]; omega
 simp only [List.append_assoc, List.cons_append, List.nil_append]
 rw [List.set_append_right _ _ (by omega), hl, show j + 1 - j = 1 by omega, List.set_append_right _ _ (by omega), hl, Nat.sub_self]
 rfl
end
end Go.Proofs.YtnjggjhkfncnlaaGreatDoor
