import Derived.Test.YtjnjieabdjpfnaaGreatDoorM8
import Derived.Test.YtjnjieabdjpfnaaGreatDoorM9
set_option linter.unusedVariables false
set_option linter.unusedSimpArgs false
namespace Go.Proofs.YtjnjieabdjpfnaaGreatDoor
set_option maxRecDepth 100000
set_option maxHeartbeats 16000000
theorem cmpL_same : ∀ (h a b : List Int), cmpL (h ++ a) (h ++ b) = cmpL a b
 |[], _, _ => rfl
 |x :: h, a, b => by
  simp only [List.cons_append, cmpL]
  rw [if_neg (by omega), if_neg (by omega)]
  exact cmpL_same h a b
theorem cmpL_lt : ∀ (h h' a b : List Int), h.length = h'.length → cmpL h h' < 0 → cmpL (h ++ a) (h' ++ b) < 0
 |[], [], a, b, _, h => by simp [cmpL] at h
 |[], _ :: _, _, _, e, _ => by simp at e
 |_ :: _, [], _, _, e, _ => by simp at e
 |x :: h, y :: h', a, b, e, hh => by
  simp only [List.cons_append, cmpL] at hh ⊢
  by_cases h1 : x < y
  ·rw [if_pos h1]; decide
  ·rw [if_neg h1] at hh ⊢
   by_cases h2 : y < x
   ·rw [if_pos h2] at hh; omega
   ·rw [if_neg h2] at hh ⊢
    exact cmpL_lt h h' a b (by simpa using e) hh
theorem incr_pw {l : List Int} (h : incr l) : l.Pairwise (· < ·) := by
 rw [List.pairwise_iff_getElem]
 intro i j hi hj hij
 have := incr_lt h j i hij hj
 rwa [getN hi, getN hj] at this
theorem ext_asc {out : List (List Int)} {c : List Int} {n : Nat} (ho : Asc out) (hn : ∀ w ∈ out, w.length = n) (hc : incr c) : Asc (extL out c) := by
 unfold Asc extL at *
 rw [List.pairwise_flatMap]
 constructor
 ·intro h _
  rw [List.pairwise_map]
  refine (incr_pw hc).imp fun hxy => ?_
  rw [cmpL_same]
  simp only [cmpL]
  rw [if_pos hxy]
  decide
 ·refine (List.Pairwise.imp_of_mem ?_ ho)
  intro a b ha hb hab x hx y hy
  simp only [List.mem_map] at hx hy
  obtain ⟨x, _, rfl⟩ := hx
  obtain ⟨y, _, rfl⟩ := hy
  exact cmpL_lt _ _ _ _ ((hn a ha).trans (hn b hb).symm) hab
theorem prod_asc {ch : Nat → List Int} (h : ∀ k, incr (ch k)) : ∀ k, Asc (prodK ch k)
 |0 => List.pairwise_singleton _ _
 |k + 1 => ext_asc (prod_asc h k) (prod_word ch k) (h k)
theorem prod_mem (ch : Nat → List Int) : ∀ (n : Nat) (w : List Int), w ∈ prodK ch n ↔ w.length = n ∧ ∀ i, i < n → w.getD i 0 ∈ ch i
 |0, w => by
  simp only [prodK, List.mem_singleton]
  constructor
  ·rintro rfl; exact ⟨rfl, fun i hi => by omega⟩
  ·rintro ⟨h, _⟩; exact List.length_eq_zero_iff.1 h
 |n + 1, w => by
  simp only [prodK, extL, List.mem_flatMap, List.mem_map]
  constructor
  ·rintro ⟨a, ha, x, hx, rfl⟩
   obtain ⟨h1, h2⟩ := (prod_mem ch n a).1 ha
   refine ⟨by simp [h1], fun i hi => ?_⟩
   rw [gD]
   by_cases e : i < n
   ·rw [List.getElem?_append_left (by omega), ← gD]
    exact h2 i e
   ·obtain rfl : i = n := by omega
    rw [List.getElem?_append_right (by omega), h1, Nat.sub_self]
    exact hx
  ·rintro ⟨h1, h2⟩
   refine ⟨w.take n, (prod_mem ch n _).2 ⟨by rw [List.length_take]; omega, fun i hi => ?_⟩, w.getD n 0, h2 n (by omega), ?_⟩
   ·have := h2 i (by omega)
    rw [gD] at this ⊢
    rwa [List.getElem?_take_of_lt hi]
   ·rw [getN (by omega), ← List.take_succ_eq_append_getElem (by omega), List.take_of_length_le (by omega)]
theorem chF_ok {p : Pro} {q : Prp} (hv : propE p q = 0) (s : Siz) (k : Nat) : incr (chF p q s k) ∧ inR (chF p q s k) p.states.length := by
 obtain ⟨_, h1, h2⟩ := validE_init (propE_valid hv)
 have h3 := (propE_start hv).1
 have a1 := setE_ok h1
 have a2 := setE_ok h2
 have a3 := setE_ok h3
 unfold chF stL
 (repeat' split) <;> exact ⟨And.right ‹_›, And.left ‹_›⟩
theorem inR_memE {l : List Int} {n : Int} (h : inR l n) {x : Int} (hx : x ∈ l) : 0 ≤ x ∧ x < n := by
 obtain ⟨i, hi, rfl⟩ := List.mem_iff_getElem.1 hx
 have := h i hi
 rwa [getN hi] at this
theorem repl_get (n j : Nat) : (List.replicate n (0 : Int)).getD j 0 = 0 := by
 rw [gD]
 by_cases h : j < n
 ·rw [List.getElem?_replicate_of_lt h]; rfl
 ·rw [List.getElem?_eq_none (by simp; omega)]; rfl
theorem repl_of {l : List Int} {n : Nat} (h1 : l.length = n) (h2 : ∀ j, j < l.length → l.getD j 0 = 0) : List.replicate n 0 = l := by
 symm
 rw [List.eq_replicate_iff]
 refine ⟨h1, fun b hb => ?_⟩
 obtain ⟨i, hi, rfl⟩ := List.mem_iff_getElem.1 hb
 have := h2 i hi
 rwa [getN hi] at this
theorem shp_of {l : List Int} : shpB 1 l = true ↔ shp l := by
 have := shpB_eq l 1
 unfold shp
 rw [show ((1 : Nat) : Int) = 1 from rfl] at this
 rw [this, decide_eq_true_iff]
theorem ini_mem {p : Pro} {q : Prp} {s : Siz} {c : Cfg} (hv : propE p q = 0) (hz : sizeE p s = 0) : c ∈ iniL p s (iniF p s) (prodK (chF p q s) (modN p s).toNat) ↔ isI p q s c := by
 have hsz := sizeE_ok hz
 have hm0 : 0 ≤ modN p s := by unfold modN; split <;> omega
 have hw0 : 0 ≤ whL p := by unfold whL; split <;> omega
 simp only [iniL, List.mem_flatMap, List.mem_map]
 constructor
 ·rintro ⟨sh, hsh, st, hst, rfl⟩
  obtain ⟨g1, g2⟩ := (prod_mem _ _ _).1 hst
  refine ⟨⟨by show (st.length : Int) = _; omega, fun j hj => ?_, rfl, by simp [cfgI], fun j hj => ?_, by simp [cfgI], fun j hj => ?_, Int.le_refl _, .inl (show (0 : Int) < 1 by decide), fun ht => ?_, fun ht => ?_⟩, rfl, fun j hj => ⟨repl_get _ _, repl_get _ _⟩, fun i hi => g2 i (by rw [← g1]; exact hi)⟩
  ·have hj' : j < st.length := hj
   exact inR_memE (chF_ok hv s j).2 (g2 j (by omega))
  ·show 0 ≤ (List.replicate _ (0 : Int)).getD j 0 ∧ (List.replicate _ (0 : Int)).getD j 0 < _
   rw [repl_get]; omega
  ·show 0 ≤ (List.replicate _ (0 : Int)).getD j 0 ∧ (List.replicate _ (0 : Int)).getD j 0 < _
   rw [repl_get]; omega
  ·unfold iniF at hsh
   rw [if_pos ht] at hsh
   obtain ⟨e1, e2⟩ := shpEl (by omega) hsh
   exact ⟨by show (sh.length : Int) = _; omega, shp_of.1 e1⟩
  ·unfold iniF at hsh
   rw [if_neg ht, List.mem_singleton] at hsh
   show sh.length = 0
   rw [hsh]; rfl
 ·rintro ⟨hvc, hval, hzero, hst⟩
  have hlen := hvc.len
  refine ⟨c.shape, ?_, c.states, (prod_mem _ _ _).2 ⟨by omega, fun i hi => hst i (by omega)⟩, ?_⟩
  ·unfold iniF
   by_cases ht : p.topology = 4
   ·rw [if_pos ht]
    obtain ⟨e1, e2⟩ := hvc.tre ht
    have := shpMem (l := c.shape) (by omega) (by omega)
    rw [shp_of.2 e2] at this
    have := of_decide_eq_true this.symm
    rwa [show c.shape.length = s.n.toNat by omega] at this
   ·rw [if_neg ht, List.mem_singleton]
    exact List.length_eq_zero_iff.1 (hvc.non ht)
  ·have hsf := hvc.snl.trans hvc.fal.symm
   have e1 := repl_of hvc.snl fun j hj => (hzero j hj).1
   have e2 := repl_of hvc.fal fun j hj => (hzero j (by omega)).2
   have e3 := hvc.cor
   obtain ⟨c1, c2, c3, c4, c5, c6⟩ := c
   simp only at e1 e2 e3 hval
   unfold cfgI
   rw [Cfg.mk.injEq]
   exact ⟨rfl, rfl, e3.symm, e1, e2, hval.symm⟩
theorem cmpC_eq {a b : Cfg} (h : cmpC a b = 0) : a = b := by
 have hz := orL_zero h
 have e1 := cmpL_eq (hz (cmpL a.shape b.shape) (by simp))
 have e2 := cmpL_eq (hz (cmpL a.states b.states) (by simp))
 have e3 := cmpL_eq (hz (cmpL a.sent b.sent) (by simp))
 have e4 := cmpL_eq (hz (cmpL a.faulty b.faulty) (by simp))
 have e5 := hz (cmpZ a.correct b.correct) (by simp)
 have e6 := hz (cmpZ a.value b.value) (by simp)
 have e5' : a.correct = b.correct := by unfold cmpZ at e5; (repeat' split at e5) <;> omega
 have e6' : a.value = b.value := by unfold cmpZ at e6; (repeat' split at e6) <;> omega
 obtain ⟨a1, a2, a3, a4, a5, a6⟩ := a
 obtain ⟨b1, b2, b3, b4, b5, b6⟩ := b
 simp only at e1 e2 e3 e4 e5' e6'
 rw [e1, e2, e3, e4, e5', e6']
theorem forms_asc {p : Pro} {s : Siz} (hz : sizeE p s = 0) : Asc (iniF p s) := by
 unfold iniF
 by_cases ht : p.topology = 4
 ·rw [if_pos ht]
  obtain ⟨m, hm, hsn⟩ := tree_odd hz ht
  rw [hsn, tN]
  match m, hm with
  |0, _ => exact List.pairwise_singleton _ _
  |1, _ => exact (shpT_asc 1 (by decide)).1
  |2, _ => exact (shpT_asc 2 (by decide)).1
  |3, _ => exact (shpT_asc 3 (by decide)).1
 ·rw [if_neg ht]; exact List.pairwise_singleton _ _
theorem ini_asc {p : Pro} {q : Prp} {s : Siz} (hv : propE p q = 0) (hz : sizeE p s = 0) : (iniL p s (iniF p s) (prodK (chF p q s) (modN p s).toNat)).Pairwise fun a b => cmpC a b < 0 := by
 have hA := forms_asc hz
 have hB := prod_asc (fun k => (chF_ok hv s k).1) (modN p s).toNat
 unfold Asc at hA hB
 unfold iniL
 rw [List.pairwise_flatMap]
 constructor
 ·intro sh _
  rw [List.pairwise_map]
  refine hB.imp fun hab => ?_
  unfold cmpC cfgI
  simp only [orL, cmpL_self]
  rw [if_neg (by simp), if_pos (by omega)]
  exact hab
 ·refine hA.imp ?_
  intro a b hab x hx y hy
  simp only [List.mem_map] at hx hy
  obtain ⟨x, _, rfl⟩ := hx
  obtain ⟨y, _, rfl⟩ := hy
  unfold cmpC cfgI
  simp only [orL]
  rw [if_pos (by omega)]
  exact hab
noncomputable def iniE (p : Pro) (q : Prp) (s : Siz) : AV := if sizQ p q s ≠ 0 then rpA [] (sizQ p q s) else iniA p q s
theorem iniA_form (p : Pro) (q : Prp) (s : Siz) : ∃ l e, iniA p q s = rpA l e := by
 unfold iniA
 split
 ·exact ⟨_, _, rfl⟩
 ·exact ⟨_, _, rfl⟩
theorem iniE_form (p : Pro) (q : Prp) (s : Siz) : ∃ l e, iniE p q s = rpA l e := by
 unfold iniE
 split
 ·exact ⟨_, _, rfl⟩
 ·exact iniA_form p q s
theorem InitialF (p : Pro) (q : Prp) (s : Siz) (hp : ¬ bigP p) (hq : ¬ bigQ q) : PSpec Tryz.prog 42 [.agg (encP p), .agg (encQ q), .agg (encZ s)] (fun u => u = iniE p q s) := by
 have he := iniE.eq_1 p q s
 refine PSpec.rp (iniE_form p q s) ?_
 refine PSpec.intro tt_ok mx_ok Tryz.func42 rfl (by decide) ?_; (conv => whnf)
 refine boxP rfl ?_
 conv => whnf
 refine boxP rfl ?_
 conv => whnf
 refine boxP rfl ?_
 conv => whnf
 (refine oP (checkAllF p q s hp hq) ?_; conv => whnf)
 refine cmpI ?_ ?_ <;> (intro h1; conv => whnf)
 ·rw [if_pos h1] at he; exact ⟨.inr ⟨_, rfl, he⟩, rfl⟩
 rw [if_neg h1] at he
 have hz := sizQ_ok (p := p) (q := q) (s := s) (by omega)
 have hI := PSpec.rp (iniA_form p q s) (initialF p q s hp hq hz.1 hz.2)
 obtain ⟨l, e, hl⟩ := iniA_form p q s
 rw [hl] at hI he
 (refine oP (hI) ?_; conv => whnf)
 exact ⟨.inl he.symm, rfl⟩
theorem IsInitialR (p : Pro) (q : Prp) (s : Siz) (c : Cfg) (hp : ¬ bigP p) (hq : ¬ bigQ q) (hw : wideB c = false) (h0 : sizQ p q s = 0) : PSpec Tryz.prog 45 [.agg (encP p), .agg (encQ q), .agg (encZ s), .agg (encC c)] (fun u => u = .bool (decide (isI p q s c))) := by
 have hz := sizQ_ok h0
 refine PSpec.intro tt_ok mx_ok Tryz.func45 rfl (by decide) ?_; (conv => whnf)
 refine boxP rfl ?_
 conv => whnf
 refine boxP rfl ?_
 conv => whnf
 refine boxP rfl ?_
 conv => whnf
 refine boxP rfl ?_
 conv => whnf
 (refine oP (sizedPropertyR p q s hp hq) ?_; conv => whnf)
 refine tI ?_
 conv => whnf
 refine dC (isInitialR p q s c hp hq hw hz.2) (fun _ => ?_) (fun _ => ?_) <;> (conv => whnf)
 ·rename_i h; exact ⟨dec_t h, rfl⟩
 ·rename_i h; exact ⟨dec_f h, rfl⟩
theorem memC_getD {l : List Cfg} {c : Cfg} : c ∈ l ↔ ∃ i, i < l.length ∧ l.getD i cfg0 = c := by
 constructor
 ·intro h
  obtain ⟨i, hi, rfl⟩ := List.mem_iff_getElem.1 h
  exact ⟨i, hi, by rw [gD, gL hi]; rfl⟩
 ·rintro ⟨i, hi, rfl⟩
  rw [gD, gL hi]
  exact List.getElem_mem _
theorem lawStartsAll (p : Pro) (q : Prp) (s : Siz) (c : Cfg) : PSpec Tryz.prog 11 [.agg (encCs p q s), .agg (encC c)] (fun u => u = .bool true) := by
 refine PSpec.intro tt_ok mx_ok Tryz.func11 rfl (by decide) ?_; (conv => whnf)
 refine boxP rfl ?_
 conv => whnf
 refine boxP rfl ?_
 conv => whnf
 refine dC (bigCaseF p q s) (fun _ => ?_) (fun _ => ?_) <;> (conv => whnf)
 ·(refine oP (knownF) ?_; conv => whnf)
  exact ⟨rfl, rfl⟩
 rename_i hb
 have hp : ¬ bigP p := fun h => hb (.inl h)
 have hq : ¬ bigQ q := fun h => hb (.inr h)
 have hW := wideF c
 cases hw : wideB c with
 |true =>
  rw [hw] at hW
  (refine oP (hW) ?_; conv => whnf)
  (refine oP (knownF) ?_; conv => whnf)
  exact ⟨rfl, rfl⟩
 |false =>
  rw [hw] at hW
  (refine oP (hW) ?_; conv => whnf)
  have hI := InitialF p q s hp hq
  by_cases hok : sizQ p q s = 0 ∧ iniB (iniF p s).length (chF p q s) (modN p s).toNat
  case neg =>
   have he : ∃ e, e ≠ 0 ∧ iniE p q s = rpA [] e := by
    unfold iniE
    by_cases h1 : sizQ p q s ≠ 0
    ·rw [if_pos h1]; exact ⟨_, h1, rfl⟩
    ·rw [if_neg h1]
     unfold iniA
     rw [if_neg (fun h => hok ⟨by omega, h⟩)]
     exact ⟨4, by decide, rfl⟩
   obtain ⟨e, he0, he⟩ := he
   rw [he] at hI
   (refine oP (hI) ?_; conv => whnf)
   refine cmpT he0 ?_
   conv => whnf
   refine cmpT rfl ?_
   conv => whnf
   (refine oP (knownF) ?_; conv => whnf)
   exact ⟨rfl, rfl⟩
  obtain ⟨h0, hB⟩ := hok
  have hz := sizQ_ok h0
  have he : iniE p q s = rpA (iniL p s (iniF p s) (prodK (chF p q s) (modN p s).toNat)) 0 := by
   unfold iniE iniA
   rw [if_neg (by omega), if_pos hB]
  rw [he] at hI
  have hF1 : 1 ≤ (iniF p s).length ∧ (iniF p s).length ≤ 5 := by
   unfold iniF
   by_cases hT : p.topology = 4
   ·rw [if_pos hT]
    obtain ⟨m, hm, hsn⟩ := tree_odd hz.2 hT
    have a1 := shpT_len1 m hm
    have a2 := (shpT_le (n := 2 * m + 1) (by omega)).1
    rw [hsn, tN]
    exact ⟨a1, a2⟩
   ·rw [if_neg hT]; exact ⟨Nat.le_refl _, by decide⟩
  have hlen : (iniL p s (iniF p s) (prodK (chF p q s) (modN p s).toNat)).length ≤ 4000 := by
   rw [iniL_len]
   exact (prod_le hF1.1 hF1.2 hB _ (Nat.le_refl _)).2
  have hmem := fun d => ini_mem (c := d) hz.1 hz.2
  have hasc := ini_asc hz.1 hz.2
  generalize iniL p s (iniF p s) (prodK (chF p q s) (modN p s).toNat) = l at hI hlen hmem hasc
  have hasc' : ∀ i, 0 < i → i < l.length → cmpC (l.getD (i - 1) cfg0) (l.getD i cfg0) < 0 := fun i h1 h2 => by
   have := (List.pairwise_iff_getElem.1 hasc) (i - 1) i (by omega) h2 (by omega)
   rw [gD, gL (by omega), gD, gL h2]
   exact this
  have hval : ∀ i, i < l.length → VC p s (l.getD i cfg0) := fun i hi => ((hmem _).1 (memC_getD.2 ⟨i, hi, rfl⟩)).1
  have hwid : ∀ i, i < l.length → wideB (l.getD i cfg0) = false := fun i hi => by
   have hv := hval i hi
   have hsz := sizeE_ok hz.2
   have hle := bigP_le hp
   have hl := hv.len
   have h1 : modN p s ≤ 8 := by unfold modN; split <;> omega
   have h2 := hv.snl
   have h3 := hv.fal
   have h4 : (l.getD i cfg0).shape.length ≤ 8 := by
    by_cases hT : p.topology = 4
    ·have := (hv.tre hT).1; omega
    ·have := hv.non hT; omega
   unfold wideB
   simp only [Bool.or_eq_false_iff, decide_eq_false_iff_not]
   omega
  (refine oP (hI) ?_; conv => whnf)
  refine fI ?_
  conv => whnf
  refine WPc.loopF tt_ok mx_ok (fun z : Nat × Bool => z.1 ≤ l.length ∧ (z.2 = true ↔ ∃ i, i < z.1 ∧ l.getD i cfg0 = c)) (fun z => [(8, .int .i64 (z.1 : Int)), (7, .bool z.2)]) (fun _ => []) (fun z => l.length - z.1) (0, false) ⟨Nat.zero_le _, by simp⟩ ?_; conv => whnf
  refine ⟨sI, ?_⟩
  rintro ⟨k, is⟩ ⟨hk, his⟩
  dsimp only at hk his ⊢
  conv => whnf
  refine cmpI ?_ ?_ <;> (intro g1; conv => whnf)
  ·have hlt : k < l.length := by omega
   have hwk := hwid k hlt
   have hvk := hval k hlt
   have hak := hasc' k
   have hwk1 : 0 < k → wideB (l.getD (k - 1) cfg0) = false := fun h => hwid (k - 1) (by omega)
   have hV : vconE p s (l.getD k cfg0) = 0 := (rdy_of hp hwk hz.2 hvk).vcon
   have next : ∀ b : Bool, (b = true ↔ is = true ∨ l.getD k cfg0 = c) → (b = true ↔ ∃ i, i < k + 1 ∧ l.getD i cfg0 = c) := fun b hb => by
    rw [hb, his]
    constructor
    ·rintro (⟨i, h1, h2⟩ | h)
     ·exact ⟨i, by omega, h2⟩
     ·exact ⟨k, by omega, h⟩
    ·rintro ⟨i, h1, h2⟩
     by_cases e : i = k
     ·subst e; exact .inr h2
     ·exact .inl ⟨i, by omega, h2⟩
   have hk1 : ∀ h : 0 < k, ((k : Int) - 1).toNat = k - 1 := fun h => by omega
   refine dI ?_
   conv => whnf
   cases is with
   |true =>
    conv => whnf
    have hnb : (true = true ↔ ∃ i, i < k + 1 ∧ l.getD i cfg0 = c) := next true (by simp)
    refine dI ?_
    conv => whnf
    by_cases hk0 : 0 < k
    ·have hck := hak hk0 hlt
     refine tI ?_
     conv => whnf
     refine aI ?_
     conv => whnf
     refine nI ?_
     conv => whnf
     rw [hk1 hk0]
     refine nI ?_
     conv => whnf
     (refine oC (compareC (l.getD (k - 1) cfg0) (l.getD k cfg0) (hwk1 hk0)) ?_; conv => whnf)
     refine fI ?_
     conv => whnf
     refine nI ?_
     conv => whnf
     (refine oC (ValidConfigF p s (l.getD k cfg0) hp hwk) ?_; conv => whnf)
     refine fI ?_
     conv => whnf
     repeat' ((first|refine nI ?_|refine aI ?_|refine tI ?_|refine fI ?_|fail);conv => whnf)
     exact ⟨(k + 1, true), sI, ⟨by dsimp only; omega, hnb⟩, by dsimp only; omega⟩
    ·refine fI ?_
     conv => whnf
     refine nI ?_
     conv => whnf
     (refine oC (ValidConfigF p s (l.getD k cfg0) hp hwk) ?_; conv => whnf)
     refine fI ?_
     conv => whnf
     repeat' ((first|refine nI ?_|refine aI ?_|refine tI ?_|refine fI ?_|fail);conv => whnf)
     exact ⟨(k + 1, true), sI, ⟨by dsimp only; omega, hnb⟩, by dsimp only; omega⟩
   |false =>
    conv => whnf
    refine nI ?_
    conv => whnf
    rw [tN]
    (refine oC (compareC (l.getD k cfg0) c hwk) ?_; conv => whnf)
    refine cmpI ?_ ?_ <;> (intro g2; conv => whnf)
    ·have g3 := cmpC_eq g2
     have hnb : (true = true ↔ ∃ i, i < k + 1 ∧ l.getD i cfg0 = c) := next true ⟨fun _ => .inr g3, fun _ => rfl⟩
     refine dI ?_
     conv => whnf
     by_cases hk0 : 0 < k
     ·have hck := hak hk0 hlt
      refine tI ?_
      conv => whnf
      refine aI ?_
      conv => whnf
      refine nI ?_
      conv => whnf
      rw [hk1 hk0]
      refine nI ?_
      conv => whnf
      (refine oC (compareC (l.getD (k - 1) cfg0) (l.getD k cfg0) (hwk1 hk0)) ?_; conv => whnf)
      refine fI ?_
      conv => whnf
      refine nI ?_
      conv => whnf
      (refine oC (ValidConfigF p s (l.getD k cfg0) hp hwk) ?_; conv => whnf)
      refine fI ?_
      conv => whnf
      repeat' ((first|refine nI ?_|refine aI ?_|refine tI ?_|refine fI ?_|fail);conv => whnf)
      exact ⟨(k + 1, true), sI, ⟨by dsimp only; omega, hnb⟩, by dsimp only; omega⟩
     ·refine fI ?_
      conv => whnf
      refine nI ?_
      conv => whnf
      (refine oC (ValidConfigF p s (l.getD k cfg0) hp hwk) ?_; conv => whnf)
      refine fI ?_
      conv => whnf
      repeat' ((first|refine nI ?_|refine aI ?_|refine tI ?_|refine fI ?_|fail);conv => whnf)
      exact ⟨(k + 1, true), sI, ⟨by dsimp only; omega, hnb⟩, by dsimp only; omega⟩
    ·have g3 : l.getD k cfg0 ≠ c := fun e => g2 (by rw [e]; exact cmpC_self c)
     have hnb : (false = true ↔ ∃ i, i < k + 1 ∧ l.getD i cfg0 = c) := next false ⟨fun h => (by cases h), fun h => h.elim (fun e => by cases e) (fun e => absurd e g3)⟩
     refine dI ?_
     conv => whnf
     by_cases hk0 : 0 < k
     ·have hck := hak hk0 hlt
      refine tI ?_
      conv => whnf
      refine aI ?_
      conv => whnf
      refine nI ?_
      conv => whnf
      rw [hk1 hk0]
      refine nI ?_
      conv => whnf
      (refine oC (compareC (l.getD (k - 1) cfg0) (l.getD k cfg0) (hwk1 hk0)) ?_; conv => whnf)
      refine fI ?_
      conv => whnf
      refine nI ?_
      conv => whnf
      (refine oC (ValidConfigF p s (l.getD k cfg0) hp hwk) ?_; conv => whnf)
      refine fI ?_
      conv => whnf
      repeat' ((first|refine nI ?_|refine aI ?_|refine tI ?_|refine fI ?_|fail);conv => whnf)
      exact ⟨(k + 1, false), sI, ⟨by dsimp only; omega, hnb⟩, by dsimp only; omega⟩
     ·refine fI ?_
      conv => whnf
      refine nI ?_
      conv => whnf
      (refine oC (ValidConfigF p s (l.getD k cfg0) hp hwk) ?_; conv => whnf)
      refine fI ?_
      conv => whnf
      repeat' ((first|refine nI ?_|refine aI ?_|refine tI ?_|refine fI ?_|fail);conv => whnf)
      exact ⟨(k + 1, false), sI, ⟨by dsimp only; omega, hnb⟩, by dsimp only; omega⟩
  ·have hfin : (is = true ↔ isI p q s c) := by
    rw [his, ← hmem, memC_getD]
    constructor
    ·rintro ⟨i, h1, h2⟩; exact ⟨i, by omega, h2⟩
    ·rintro ⟨i, h1, h2⟩; exact ⟨i, by omega, h2⟩
   cases is with
   |true =>
    refine dC (IsInitialR p q s c hp hq hw h0) (fun _ => ?_) (fun _ => ?_) <;> (conv => whnf)
    ·(refine oP (knownF) ?_; conv => whnf)
     exact ⟨rfl, rfl⟩
    ·rename_i hn; exact absurd (hfin.1 rfl) hn
   |false =>
    refine dC (IsInitialR p q s c hp hq hw h0) (fun _ => ?_) (fun _ => ?_) <;> (conv => whnf)
    ·rename_i hy; exact absurd (hfin.2 hy) (by simp)
    ·(refine oP (knownF) ?_; conv => whnf)
     exact ⟨rfl, rfl⟩
noncomputable def iniD (p : Pro) (q : Prp) (s : Siz) : List Cfg × Bool := if iniB (iniF p s).length (chF p q s) (modN p s).toNat then (iniL p s (iniF p s) (prodK (chF p q s) (modN p s).toNat), true) else ([], false)
def inU (d : List Cfg × Bool) : AV → Prop := fun u => u = .tup [.sl cfg0 encC d.1, .bool d.2] ∨ u = .tup [.nilsl, .bool false] ∧ d = ([], false)
theorem sameConfigsB (l : List Cfg) (hl : l.length ≤ 100000) (hw : ∀ d ∈ l, wideB d = false) : PSpec Tryz.prog 40 [.sl cfg0 encC l, .sl cfg0 encC l] (fun u => u = .bool true) := by
 refine PSpec.intro tt_ok mx_ok Tryz.func40 rfl (by decide) ?_; (conv => whnf)
 refine fI ?_
 conv => whnf
 refine WPc.loopF tt_ok mx_ok (fun k : Nat => k ≤ l.length) (fun k => [(5, .int .i64 (k : Int))]) (fun _ => []) (fun k => l.length - k) 0 (Nat.zero_le _) ?_; conv => whnf
 refine ⟨sI, ?_⟩
 rintro k hk
 conv => whnf
 refine cmpI ?_ ?_ <;> (intro g1; conv => whnf)
 ·refine dI ?_
  conv => whnf
  refine nI ?_
  rw [tN]
  conv => whnf
  refine nI ?_
  rw [tN]
  conv => whnf
  have hd : wideB (l.getD k cfg0) = false := hw _ (by
   rw [gD, gL (by omega)]
   exact List.getElem_mem _)
  generalize l.getD k cfg0 = d at hd
  have hs := cmpC_self d
  (refine oC (compareR d d hd) ?_; conv => whnf)
  refine fI ?_
  conv => whnf
  repeat' ((first|refine nI ?_|refine aI ?_|refine tI ?_|refine fI ?_|fail);conv => whnf)
  exact ⟨k + 1, sI, by omega, by dsimp only; omega⟩
 ·exact ⟨rfl, rfl⟩
theorem iniE_ok (p : Pro) (q : Prp) (s : Siz) (hp : ¬ bigP p) : ∃ l e, iniE p q s = rpA l e ∧ l.length ≤ 4000 ∧ ∀ d ∈ l, wideB d = false := by
 unfold iniE
 by_cases h0 : sizQ p q s ≠ 0
 ·rw [if_pos h0]; exact ⟨[], _, rfl, by simp, by simp⟩
 rw [if_neg h0]
 have hz := sizQ_ok (p := p) (q := q) (s := s) (by omega)
 unfold iniA
 by_cases hB : iniB (iniF p s).length (chF p q s) (modN p s).toNat
 ·rw [if_pos hB]
  refine ⟨_, _, rfl, ?_, fun d hd => ?_⟩
  ·have hF1 : 1 ≤ (iniF p s).length ∧ (iniF p s).length ≤ 5 := by
    unfold iniF
    by_cases hT : p.topology = 4
    ·rw [if_pos hT]
     obtain ⟨m, hm, hsn⟩ := tree_odd hz.2 hT
     have a1 := shpT_len1 m hm
     have a2 := (shpT_le (n := 2 * m + 1) (by omega)).1
     rw [hsn, tN]
     exact ⟨a1, a2⟩
    ·rw [if_neg hT]; exact ⟨Nat.le_refl _, by decide⟩
   rw [iniL_len]
   exact (prod_le hF1.1 hF1.2 hB _ (Nat.le_refl _)).2
  ·have hv := ((ini_mem hz.1 hz.2).1 hd).1
   have hsz := sizeE_ok hz.2
   have hle := bigP_le hp
   have hl := hv.len
   have h1 : modN p s ≤ 8 := by unfold modN; split <;> omega
   have h2 := hv.snl
   have h3 := hv.fal
   have h4 : d.shape.length ≤ 8 := by
    by_cases hT : p.topology = 4
    ·have := (hv.tre hT).1; omega
    ·have := hv.non hT; omega
   unfold wideB
   simp only [Bool.or_eq_false_iff, decide_eq_false_iff_not]
   omega
 ·rw [if_neg hB]; exact ⟨[], _, rfl, by simp, by simp⟩
end Go.Proofs.YtjnjieabdjpfnaaGreatDoor
