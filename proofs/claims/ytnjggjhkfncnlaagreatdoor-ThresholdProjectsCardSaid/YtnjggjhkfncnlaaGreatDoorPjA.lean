import Derived.Test.YtnjggjhkfncnlaaGreatDoorHA
import Derived.Test.YtnjggjhkfncnlaaGreatDoorFS
import Derived.Test.YtnjggjhkfncnlaaGreatDoorPjB
import Derived.Test.YtnjggjhkfncnlaaGreatDoorV1
import Derived.Test.YtnjggjhkfncnlaaGreatDoorFV
set_option linter.unusedVariables false
set_option linter.unusedSimpArgs false
namespace Go.Proofs.YtnjggjhkfncnlaaGreatDoor
set_option maxRecDepth 100000
set_option maxHeartbeats 4000000
def addL : List Int → List Int → List Int
 |sch, []=>sch
 |sch, g :: gs=>if g ∈ sch then addL sch gs else addL (sch ++ [g]) gs
theorem addL_pre : ∀ (gs sch : List Int), ∃ t, addL sch gs = sch ++ t
 |[], sch=>⟨[], by simp [addL]⟩
 |g :: gs, sch=>by
  unfold addL
  split
  ·exact addL_pre gs sch
  ·obtain ⟨t, h⟩:=addL_pre gs (sch ++ [g])
   exact ⟨g :: t, by rw [h]; simp⟩
theorem addL_mem : ∀ {gs sch : List Int} {x : Int}, x ∈ addL sch gs ↔ x ∈ sch ∨ x ∈ gs
 |[], sch, x=>by simp [addL]
 |g :: gs, sch, x=>by
  unfold addL
  split
  ·rename_i h
   rw [addL_mem]
   constructor
   ·rintro (h | h)
    ·exact .inl h
    ·exact .inr (List.mem_cons_of_mem _ h)
   ·rintro (h1 | h1)
    ·exact .inl h1
    ·rcases List.mem_cons.1 h1 with rfl | h1
     ·exact .inl h
     ·exact .inr h1
  ·rw [addL_mem, List.mem_append, List.mem_singleton, List.mem_cons]
   constructor
   ·rintro ((h | h) | h)
    ·exact .inl h
    ·exact .inr (.inl h)
    ·exact .inr (.inr h)
   ·rintro (h | h | h)
    ·exact .inl (.inl h)
    ·exact .inl (.inr h)
    ·exact .inr h
theorem addL_nodup : ∀ {gs sch : List Int}, sch.Nodup → (addL sch gs).Nodup
 |[], sch, h=>h
 |g :: gs, sch, h=>by
  unfold addL
  split
  ·exact addL_nodup h
  ·rename_i hn
   refine addL_nodup ?_
   rw [List.nodup_append]
   refine ⟨h, by simp, fun a ha b hb e=>?_⟩
   rw [List.mem_singleton] at hb
   subst hb; subst e
   exact hn ha
noncomputable def schF (p : Pro) (s : Siz) : List Cfg → List Int → List Int → List Int × List Int
 |[], sch, seg=>(sch, seg)
 |c :: l, sch, seg=>schF p s l (addL sch (unlL p s c (thrL p.rules).length)) (seg ++ [((addL sch (unlL p s c (thrL p.rules).length)).length : Int)])
structure SchF (p : Pro) (s : Siz) (l : List Cfg) (sch seg : List Int) (R : List Int × List Int) : Prop where
 pre : ∃ t, R.1 = sch ++ t
 sgl : R.2.length = seg.length + l.length
 old : ∀ k, k < seg.length → R.2.getD k 0 = seg.getD k 0
 new : ∀ k, k < l.length → ∃ n : Nat, R.2.getD (seg.length + k) 0 = n ∧ n ≤ R.1.length ∧ ∀ x ∈ unlL p s (l.getD k cfg0) (thrL p.rules).length, x ∈ R.1.take n
 nod : sch.Nodup → R.1.Nodup
 rng : (∀ x ∈ sch, 0 ≤ x ∧ x < ((thrL p.rules).length : Int)) → ∀ x ∈ R.1, 0 ≤ x ∧ x < ((thrL p.rules).length : Int)
theorem schF_ok (p : Pro) (s : Siz) : ∀ (l : List Cfg) (sch seg : List Int), SchF p s l sch seg (schF p s l sch seg)
 |[], sch, seg=>⟨⟨[], by simp [schF]⟩, by simp [schF], fun k hk=>rfl, fun k hk=>by simp at hk, id, id⟩
 |c :: l, sch, seg=>by
  obtain ⟨t0, h0⟩:=addL_pre (unlL p s c (thrL p.rules).length) sch
  obtain ⟨⟨t, h1⟩, h2, h3, h4, h5, h6⟩:=schF_ok p s l (addL sch (unlL p s c (thrL p.rules).length)) (seg ++ [((addL sch (unlL p s c (thrL p.rules).length)).length : Int)])
  have hl : (seg ++ [((addL sch (unlL p s c (thrL p.rules).length)).length : Int)]).length = seg.length + 1:=by simp
  rw [hl] at h2 h3 h4
  have e : schF p s (c :: l) sch seg = schF p s l (addL sch (unlL p s c (thrL p.rules).length)) (seg ++ [((addL sch (unlL p s c (thrL p.rules).length)).length : Int)]):=rfl
  rw [e]
  refine ⟨⟨t0 ++ t, by rw [h1, h0, List.append_assoc]⟩, by rw [h2, List.length_cons]; omega, fun k hk=>?_, fun k hk=>?_, fun hn=>h5 (addL_nodup hn), fun hr=>h6 fun x hx=>?_⟩
  ·rw [h3 k (by omega), gD, List.getElem?_append_left hk, ← gD]
  ·cases k with
   |zero =>
    refine ⟨(addL sch (unlL p s c (thrL p.rules).length)).length, ?_, by rw [h1, List.length_append]; omega, fun x hx=>?_⟩
    ·rw [Nat.add_zero, h3 _ (by omega), gD, List.getElem?_append_right (Nat.le_refl _), Nat.sub_self]
     rfl
    ·rw [h1, List.take_left]
     exact addL_mem.2 (.inr hx)
   |succ k =>
    obtain ⟨n, a, b, d⟩:=h4 k (by rw [List.length_cons] at hk; omega)
    refine ⟨n, ?_, b, d⟩
    rw [← a]
    congr 1
    omega
  ·rcases addL_mem.1 hx with hx | hx
   ·exact hr x hx
   ·obtain ⟨i, hi, rfl, _⟩:=(unlL_mem p s c).1 hx
    omega
theorem sch_of {n : Nat} {l : List Int} (h1 : l.Nodup) (h2 : ∀ x ∈ l, 0 ≤ x ∧ x < (n : Int)) : schB n l:=by
 intro i hi
 refine ⟨h2 _ (mem_getD 0 hi), fun hm=>?_⟩
 obtain ⟨j, hj, e⟩:=List.mem_take_iff_getElem.1 hm
 rw [getD_elem 0 hi] at e
 have:=(List.getElem_inj h1).1 e
 omega
def stV' (c : Cfg) (i : Nat) : Vb:=⟨if (i : Int) < c.correct then 3 else 4, 0, c.states.getD i 0⟩
def tpV (c : Cfg) (xs : List Stp) (seg : List Int) (k : Nat) : Vb:=⟨if (xs.getD k stp0).process < c.correct then 5 else 6, seg.getD k 0, (xs.getD k stp0).rule⟩
def bsC (s : Siz) : Co:=fun v=>if v = ⟨0, 0, 0⟩ then s.n else if v = ⟨1, 0, 0⟩ then s.t else if v = ⟨2, 0, 0⟩ then s.f else 0
def cS (c : Cfg) (v : Vb) : Nat → Int
 |0=>0
 |i + 1=>cS c v i + if v = stV' c i then 1 else 0
def cT (c : Cfg) (xs : List Stp) (seg : List Int) (v : Vb) : Nat → Int
 |0=>0
 |k + 1=>cT c xs seg v k + if v = tpV c xs seg k then 1 else 0
def pjC (s : Siz) (c : Cfg) (xs : List Stp) (seg : List Int) (n m : Nat) : Co:=fun v=>bsC s v + cS c v n + cT c xs seg v m
theorem pjC_s (s : Siz) (c : Cfg) (xs : List Stp) (seg : List Int) (n : Nat) : addC (pjC s c xs seg n 0) (stV' c n) 1 = pjC s c xs seg (n + 1) 0:=by
 funext v
 unfold addC pjC
 rw [cS, cT]
 by_cases e : v = stV' c n
 ·rw [if_pos e, if_pos e]; omega
 ·rw [if_neg e, if_neg e]; omega
theorem pjC_t (s : Siz) (c : Cfg) (xs : List Stp) (seg : List Int) (n m : Nat) : addC (pjC s c xs seg n m) (tpV c xs seg m) 1 = pjC s c xs seg n (m + 1):=by
 funext v
 unfold addC pjC
 rw [cT]
 by_cases e : v = tpV c xs seg m
 ·rw [if_pos e, if_pos e]; omega
 ·rw [if_neg e, if_neg e]; omega
theorem cS_b (c : Cfg) (v : Vb) : ∀ n : Nat, 0 ≤ cS c v n ∧ cS c v n ≤ n
 |0=>by simp [cS]
 |n + 1=>by
  have:=cS_b c v n
  rw [cS]
  split <;> omega
theorem cT_b (c : Cfg) (xs : List Stp) (seg : List Int) (v : Vb) : ∀ n : Nat, 0 ≤ cT c xs seg v n ∧ cT c xs seg v n ≤ n
 |0=>by simp [cT]
 |n + 1=>by
  have:=cT_b c xs seg v n
  rw [cT]
  split <;> omega
theorem fau_whB {p : Pro} {s : Siz} {c : Cfg} (h : Rdy p s c) {i : Int} (hi : i < c.states.length) (hc : ¬ i < c.correct) : whB p:=by
 have hl:=h.vc.len
 have hcor:=h.vc.cor
 have hsz:=h.sz
 have ht:=(vld_of h.val).top
 have ha:=h.adm
 unfold whB
 by_cases h0 : p.fault = 0
 ·exfalso
  unfold modN at hl
  rw [if_neg (by omega)] at hl
  have hf : s.f = 0:=by
   have a2:=ha.2.1
   unfold admC at a2
   omega
  omega
 ·by_cases h3 : p.fault = 3
  ·exfalso
   unfold modN at hl
   rw [if_pos h3] at hl
   omega
  ·omega
theorem start_var {p : Pro} {q : Prp} {s : Siz} {c : Cfg} {sch : List Int} (hp : propE p q = 0) (ht : thrB p) (h : Rdy p s c) (hi : isI p q s c) {i : Nat} (hl : i < c.states.length) : stV' c i ∈ varL p q sch:=by
 have hm:=hi.2.2.2 i hl
 have hcor:=h.vc.cor
 have hv:=(vld_of (vlq_of hp).vld).shp
 unfold chF at hm
 rw [if_neg (by have:=ht.1; omega)] at hm
 unfold stV'
 by_cases hc : (i : Int) < c.correct
 ·rw [if_pos hc]
  rw [if_pos (by omega)] at hm
  exact var_three.2 hm
 ·rw [if_neg hc]
  rw [if_neg (by omega)] at hm
  exact var_four.2 ⟨fau_whB h (by omega) hc, hm⟩
theorem fire_var {p : Pro} {q : Prp} {sch : List Int} {j r : Nat} {kind : Int} (hj : j ≤ sch.length) (hr : r < p.rules.length) (ha : allB (thrL p.rules) sch j (p.rules.getD r rul0)) (hk : kind = 5 ∨ kind = 6 ∧ whB p) : (⟨kind, j, r⟩ : Vb) ∈ varL p q sch:=by
 unfold varL
 refine List.mem_append_right _ (List.mem_flatMap.2 ⟨j, List.mem_range.2 (by omega), ?_⟩)
 unfold segV
 refine List.mem_flatMap.2 ⟨r, List.mem_range.2 hr, ?_⟩
 unfold ruV
 rw [if_pos ha]
 rcases hk with rfl | ⟨rfl, hw⟩
 ·split <;> simp
 ·rw [if_pos hw]; simp
theorem step_var {p : Pro} {q : Prp} {s : Siz} {c : Cfg} {xs : List Stp} (ht : thrB p) (h : Rdy p s c) (hr : runOk p s c xs) {k : Nat} (hk : k < xs.length) : tpV c xs (schF p s (trs p c xs) [] []).2 k ∈ varL p q (schF p s (trs p c xs) [] []).1:=by
 have hS:=schF_ok p s (trs p c xs) [] []
 obtain ⟨n, e1, e2, e3⟩:=hS.new k (by rw [trs_len]; omega)
 rw [List.length_nil, Nat.zero_add] at e1
 have hst:=trs_step h hr k hk
 have hrd:=trs_rdy h hr k (by omega)
 obtain ⟨⟨⟨⟨r1, r2⟩, ⟨q1, q2⟩⟩, he⟩, _, _⟩:=hst
 have hcc : ((trs p c xs).getD k cfg0).correct = c.correct:=by
  have a:=hrd.vc.cor
  have b:=h.vc.cor
  omega
 obtain ⟨r, er⟩ : ∃ r : Nat, (xs.getD k stp0).rule = r:=⟨(xs.getD k stp0).rule.toNat, by omega⟩
 unfold tpV
 rw [e1, er]
 refine fire_var e2 (by omega) (fun g hg=>?_) ?_
 ·have hri : r < p.rules.length:=by omega
  have hgm:=thrL_all hri hg
  obtain ⟨i, hi, ei⟩:=List.getElem_of_mem hgm
  obtain ⟨jg, hjg, ejg⟩:=List.getElem_of_mem hg
  have hk1:=(ht.2.2 r hri).1
  have hkin:=he.2.2
  rw [er, tN] at hkin
  unfold kinB at hkin
  rw [if_neg (by omega), if_pos hk1] at hkin
  have hgr:=hkin.2.1 jg hjg
  rw [getD_elem thr0 hjg, ejg] at hgr
  have hun : unlB p s ((trs p c xs).getD k cfg0) i:=by
   unfold unlB
   rw [getD_elem thr0 hi, ei]
   exact hgr
  have hmem:=e3 (i : Int) ((unlL_mem p s _).2 ⟨i, hi, rfl, hun⟩)
  obtain ⟨m, hm, em⟩:=List.mem_take_iff_getElem.1 hmem
  refine ⟨m, by omega, ?_⟩
  rw [getD_elem (0 : Int) (by omega), em, tN, getD_elem thr0 hi, ei]
 ·by_cases hp : (xs.getD k stp0).process < c.correct
  ·rw [if_pos hp]; exact .inl rfl
  ·rw [if_neg hp]
   exact .inr ⟨rfl, fau_whB hrd (i:=(xs.getD k stp0).process) (by omega) (by omega)⟩
theorem run_len {p : Pro} {s : Siz} (ht : thrB p) : ∀ {xs : List Stp} {c : Cfg}, Rdy p s c → runOk p s c xs → potL c.states + xs.length ≤ 48
 |[], c, h, _=>by have:=pot_max h; simpa using this.2
 |x :: xs, c, h, ⟨h1, h2, h3⟩=>by
  have a:=run_len ht (h.next h1 h2) h3
  have b:=pot_up ht h1
  rw [List.length_cons]
  unfold rulX at a b
  omega
end Go.Proofs.YtnjggjhkfncnlaaGreatDoor
