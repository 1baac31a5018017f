
/-
  Bad configurations: counts that hold and neighbors in given states.
-/
import Derived.Test.YtcbckmnbdcjeeaaGreatDoorFoB
set_option linter.unusedVariables false
set_option linter.unusedSimpArgs false
namespace Go.Proofs.YtcbckmnbdcjeeaaGreatDoor
set_option maxRecDepth 100000
set_option maxHeartbeats 8000000

def hitN (S L : List Int) : Nat := L.countP (fun x => decide (x ∈ S))
theorem hit_snoc {S : List Int} {x : Int} (h : x ∉ S) : ∀ L : List Int, hitN (S ++ [x]) L = hitN S L + L.count x
  | [] => rfl
  | y :: L => by
    have ih := hit_snoc h L
    simp only [hitN] at ih ⊢
    rw [List.countP_cons, List.countP_cons, List.count_cons, ih]
    by_cases h1 : y = x
    · subst h1
      simp [h]
      omega
    · by_cases h2 : y ∈ S
      · simp [h1, h2]; omega
      · simp [h1, h2]
theorem hit_le (S L : List Int) : hitN S L ≤ L.length := List.countP_le_length
theorem hit_take {S l : List Int} {k : Nat} (h : k < l.length) : hitN S (l.take (k + 1)) = hitN S (l.take k) + if l.getD k 0 ∈ S then 1 else 0 := by
  have e : l.getD k 0 = l[k] := by rw [List.getD_eq_getElem?_getD, List.getElem?_eq_getElem h]; rfl
  rw [List.take_succ_eq_append_getElem h, e]
  simp only [hitN, List.countP_append, List.countP_singleton, decide_eq_true_eq]
theorem incr_lt {l : List Int} (h : incr l) : ∀ (k i : Nat), i < k → k < l.length → l.getD i 0 < l.getD k 0
  | 0, i, hi, _ => by omega
  | k + 1, i, hi, hk => by
    have h1 := h (k + 1) hk (by omega)
    rw [Nat.add_sub_cancel] at h1
    by_cases e : i = k
    · subst e; exact h1
    · have := incr_lt h k i (by omega) (by omega)
      omega
theorem incr_fresh {l : List Int} (h : incr l) {k : Nat} (hk : k < l.length) : l.getD k 0 ∉ l.take k := by
  intro hm
  obtain ⟨i, hi, e⟩ := List.getElem_of_mem hm
  rw [List.length_take] at hi
  have h1 := incr_lt h k i (by omega) hk
  rw [List.getElem_take] at e
  rw [List.getD_eq_getElem?_getD, List.getElem?_eq_getElem (by omega), Option.getD_some, e] at h1
  omega
theorem setE_ok {l : List Int} {n : Int} (h : setE l n = 0) : inR l n ∧ incr l := by
  unfold setE at h
  by_cases h1 : inR l n
  · rw [if_pos h1] at h
    by_cases h2 : incr l
    · exact ⟨h1, h2⟩
    · rw [if_neg h2] at h; omega
  · rw [if_neg h1] at h; omega
theorem orL_zero : ∀ {l : List Int}, orL l = 0 → ∀ x ∈ l, x = 0
  | [], _, x, hx => by cases hx
  | a :: l, h, x, hx => by
    by_cases ha : a = 0
    · rw [orL_z ha] at h
      rcases List.mem_cons.1 hx with rfl | hx
      · exact ha
      · exact orL_zero h x hx
    · rw [orL_nz ha] at h; omega
theorem prop_ok {p : Pro} {q : Prp} (h : propE p q = 0) (hk : q.kind = 1) : (∀ j, j < q.bad.length → inR (q.bad.getD j cnt0).states p.states.length ∧ incr (q.bad.getD j cnt0).states) ∧ (q.adjacent.length = 0 ∨ q.adjacent.length = 2) := by
  unfold propE at h
  by_cases h1 : validE p ≠ 0
  · rw [if_pos h1] at h; omega
  rw [if_neg h1] at h
  by_cases h2 : ¬ validN q.name
  · rw [if_pos h2] at h; omega
  rw [if_neg h2, if_neg (by omega)] at h
  by_cases h3 : (q.kind = 1 ∧ 0 < q.goal.length) ∨ (q.kind = 2 ∧ (0 < q.bad.length ∨ 0 < q.adjacent.length))
  · rw [if_pos h3] at h; omega
  rw [if_neg h3] at h
  by_cases h4 : setE q.start p.states.length ≠ 0
  · rw [if_pos h4] at h; omega
  rw [if_neg h4] at h
  by_cases h5 : ¬ (∀ j, j < q.start.length → q.start.getD j 0 ∈ p.initial)
  · rw [if_pos h5] at h; omega
  rw [if_neg h5, if_neg (by omega)] at h
  have hz := orL_zero h
  have hc := hz (cntsE p.states.length q.bad) (by simp)
  have ha := hz (adjE p q.adjacent) (by simp)
  refine ⟨fun j hj => ?_, ?_⟩
  · have h6 := orL_zero hc (cntE p.states.length (q.bad.getD j cnt0)) (List.mem_map.2 ⟨_, by
      rw [List.getD_eq_getElem?_getD, List.getElem?_eq_getElem hj]; exact List.getElem_mem _, rfl⟩)
    exact setE_ok (orL_zero h6 _ (List.mem_cons_self ..))
  · unfold adjE at ha
    by_cases h6 : q.adjacent.length = 0
    · exact .inl h6
    · rw [if_neg h6] at ha
      by_cases h7 : p.topology = 1
      · rw [if_pos h7] at ha; omega
      · rw [if_neg h7] at ha
        by_cases h8 : q.adjacent.length ≠ 2
        · rw [if_pos h8] at ha; omega
        · omega
/-! ### the links are the neighbors -/
theorem nbr_link {t : Int} {l : List Int} {n i : Nat} (hi : i < n) : nbr t l n i = (nbF t l n i, nbS t l n i, nbP t l n i) := by
  unfold nbr nbF nbS nbP
  rw [if_neg (by omega)]
  by_cases h2 : t = 2
  · rw [if_pos h2, if_pos h2, if_pos h2, if_neg (show ¬ (t = 4 ∧ lkB t l n = true) from fun h => by have := h.1; omega)]
    refine Prod.ext rfl (Prod.ext ?_ rfl)
    dsimp only
    split <;> split <;> omega
  · rw [if_neg h2, if_neg h2, if_neg h2]
    by_cases h3 : t = 3
    · rw [if_pos h3, if_pos h3, if_pos h3, if_neg (show ¬ (t = 4 ∧ lkB t l n = true) from fun h => by have := h.1; omega)]
      refine Prod.ext ?_ (Prod.ext ?_ rfl) <;> dsimp only <;> split <;> split <;> omega
    · rw [if_neg h3, if_neg h3, if_neg h3]
      have e : (t = 4 ∧ (l.length : Int) = n ∧ shp l) ↔ (t = 4 ∧ lkB t l n = true) := by
        unfold lkB
        rw [decide_eq_true_iff]
        constructor
        · rintro ⟨a, b, c⟩; exact ⟨a, fun _ => ⟨c, by omega⟩⟩
        · rintro ⟨a, b⟩; exact ⟨a, by have := (b a).2; omega, (b a).1⟩
      by_cases h4 : t = 4 ∧ (l.length : Int) = n ∧ shp l
      · rw [if_pos h4, if_pos (e.1 h4), if_pos (e.1 h4), if_pos (e.1 h4), Int.toNat_natCast]
      · rw [if_neg h4, if_neg (fun h => h4 (e.2 h)), if_neg (fun h => h4 (e.2 h)), if_neg (fun h => h4 (e.2 h))]
theorem nb_lt {t : Int} {l : List Int} {n i : Nat} (hi : i < n) : nbF t l n i < n ∧ nbS t l n i < n := by
  unfold nbF nbS
  by_cases h2 : t = 2
  · rw [if_pos h2, if_pos h2]; constructor
    · omega
    · split <;> omega
  · rw [if_neg h2, if_neg h2]
    by_cases h3 : t = 3
    · rw [if_pos h3, if_pos h3]; constructor <;> split <;> omega
    · rw [if_neg h3, if_neg h3]
      by_cases h4 : t = 4 ∧ lkB t l n = true
      · rw [if_pos h4, if_pos h4]
        obtain ⟨h5, h6⟩ := h4
        unfold lkB at h6
        rw [decide_eq_true_iff] at h6
        obtain ⟨h7, h8⟩ := h6 h5
        unfold firstT secondT
        by_cases h9 : l.getD i 0 = 2
        · have := h7.two (by omega) h9
          rw [if_pos h9, if_pos h9]; constructor <;> omega
        · rw [if_neg h9, if_neg h9]; constructor <;> omega
      · rw [if_neg h4, if_neg h4]; constructor <;> omega

def nearB (c : Cfg) (x v : Int) : Prop := 0 ≤ x ∧ c.states.getD x.toNat 0 = v
def adB (p : Pro) (c : Cfg) (a b : Int) (i : Nat) : Prop := c.states.getD i 0 = a ∧ (nearB c (nbS p.topology c.shape c.states.length i) b ∨ (p.topology = 4 ∧ nearB c (nbF p.topology c.shape c.states.length i) b))
def adjB (p : Pro) (c : Cfg) (l : List Int) : Prop := ∃ i, i < c.states.length ∧ adB p c (l.getD 0 0) (l.getD 1 0) i
noncomputable instance decAdj (p : Pro) (c : Cfg) (l : List Int) : Decidable (adjB p c l) := Classical.propDecidable _
theorem adjacentF (p : Pro) (c : Cfg) (l : List Int) (hw : wideB c = false) (hl : l.length = 2) : PSpec Tryz.prog 77 [.agg (encP p), .sl 0 encI l, .agg (encC c)] (fun u => u = .bool (decide (adjB p c l))) := by
  have hc := wide_le hw
  refine PSpec.intro tt_ok mx_ok Tryz.func77 rfl (by decide) ?_; (conv => whnf)
  refine boxP rfl ?_
  conv => whnf
  refine boxP rfl ?_
  conv => whnf
  (refine Spec.of_pure (n := 5) (linkF p.topology c.shape c.states.length (by omega) (by omega)) rfl ?_; rintro _ rfl; conv => whnf)
  have f1 : ((List.range c.states.length).map (nbF p.topology c.shape c.states.length)).length = c.states.length := by simp
  have f2 : ((List.range c.states.length).map (nbS p.topology c.shape c.states.length)).length = c.states.length := by simp
  refine WPc.loopF tt_ok mx_ok (fun k : Nat => k ≤ c.states.length ∧ ∀ j, j < k → ¬ adB p c (l.getD 0 0) (l.getD 1 0) j) (fun k => [(27, .int .i64 (k : Int))]) (fun _ => [(7, .box 89 [.sl 0 encI ((List.range c.states.length).map (nbF p.topology c.shape c.states.length)), .sl 0 encI ((List.range c.states.length).map (nbS p.topology c.shape c.states.length)), .sl 0 encI ((List.range c.states.length).map (nbP p.topology c.shape c.states.length))])]) (fun k => c.states.length - k) 0 ⟨by omega, fun j hj => by omega⟩ ?_; conv => whnf
  refine ⟨(Sub.id_ 400 rfl auto_ auto_), ?_⟩
  rintro k ⟨hk, ha⟩
  conv => whnf
  refine cmpI (fun h1 => ?_) (fun h1 => ?_) <;> conv => whnf
  · have hlt := nb_lt (t := p.topology) (l := c.shape) (n := c.states.length) (i := k) (by omega)
    have next : ¬ adB p c (l.getD 0 0) (l.getD 1 0) k → ∀ j, j < k + 1 → ¬ adB p c (l.getD 0 0) (l.getD 1 0) j := fun h j hj => by
      by_cases e : j = k
      · subst e; exact h
      · exact ha j (by omega)
    refine needI (by omega) ?_
    rw [Int.toNat_natCast]
    conv => whnf
    refine needI (by omega) ?_
    conv => whnf
    refine cmpI (fun h2 => ?_) (fun h2 => ?_) <;> conv => whnf
    · repeat' (first
          | (refine needI (by first | omega | (dsimp only; omega)) ?_; conv => whnf)
          | (refine arI trivial (by omega) ?_; conv => whnf)
          | (refine cmpT (by omega) ?_; conv => whnf)
          | (refine cmpF (by omega) ?_; conv => whnf)
          | fail)
      exact ⟨k + 1, (Sub.id_ 400 rfl auto_ auto_), ⟨by omega, next (fun h => h2 h.1)⟩, by dsimp only; omega⟩
    refine needI (by omega) ?_
    rw [Int.toNat_natCast, getD_map_range _ _ _ (by omega)]
    conv => whnf
    refine drawI (by decide +kernel) ?_
    conv => whnf
    have h2' : c.states.getD k 0 = l.getD 0 0 := by
      by_cases e : c.states.getD k 0 = l.getD 0 0
      · exact e
      · exact absurd e h2
    by_cases hS : nearB c (nbS p.topology c.shape c.states.length k) (l.getD 1 0)
    · refine cmpT hS.1 ?_
      conv => whnf
      refine needI (by have := hS.1; omega) ?_
      conv => whnf
      refine needI (by omega) ?_
      conv => whnf
      refine cmpT hS.2 ?_
      conv => whnf
      exact ⟨dec_t ⟨k, by omega, h2', .inl hS⟩, rfl⟩
    refine cmpI (fun h3 => ?_) (fun h3 => ?_) <;> conv => whnf
    case' refine_1 =>
      refine needI (by omega) ?_
      conv => whnf
      refine needI (by omega) ?_
      conv => whnf
      refine cmpF (fun h => hS ⟨h3, h⟩) ?_
      conv => whnf
    all_goals
      refine needI (by omega) ?_
      rw [Int.toNat_natCast, getD_map_range _ _ _ (by omega)]
      conv => whnf
      refine drawI (by decide +kernel) ?_
      conv => whnf
      by_cases hF : p.topology = 4 ∧ nearB c (nbF p.topology c.shape c.states.length k) (l.getD 1 0)
      · refine cmpT hF.1 ?_
        conv => whnf
        refine cmpT hF.2.1 ?_
        conv => whnf
        refine needI (by have := hF.2.1; omega) ?_
        conv => whnf
        refine needI (by omega) ?_
        conv => whnf
        refine cmpT hF.2.2 ?_
        conv => whnf
        exact ⟨dec_t ⟨k, by omega, h2', .inr hF⟩, rfl⟩
      have nx := next (fun h => h.2.elim hS hF)
      refine cmpI (fun h5 => ?_) (fun h5 => ?_) <;> conv => whnf
      · refine cmpI (fun h6 => ?_) (fun h6 => ?_) <;> conv => whnf
        · refine needI (by omega) ?_
          conv => whnf
          refine needI (by omega) ?_
          conv => whnf
          refine cmpF (fun h => hF ⟨h5, h6, h⟩) ?_
          conv => whnf
          repeat' (first
              | (refine needI (by first | omega | (dsimp only; omega)) ?_; conv => whnf)
              | (refine arI trivial (by omega) ?_; conv => whnf)
              | (refine cmpT (by omega) ?_; conv => whnf)
              | (refine cmpF (by omega) ?_; conv => whnf)
              | fail)
          exact ⟨k + 1, (Sub.id_ 400 rfl auto_ auto_), ⟨by omega, nx⟩, by dsimp only; omega⟩
        · repeat' (first
              | (refine needI (by first | omega | (dsimp only; omega)) ?_; conv => whnf)
              | (refine arI trivial (by omega) ?_; conv => whnf)
              | (refine cmpT (by omega) ?_; conv => whnf)
              | (refine cmpF (by omega) ?_; conv => whnf)
              | fail)
          exact ⟨k + 1, (Sub.id_ 400 rfl auto_ auto_), ⟨by omega, nx⟩, by dsimp only; omega⟩
      · repeat' (first
            | (refine needI (by first | omega | (dsimp only; omega)) ?_; conv => whnf)
            | (refine arI trivial (by omega) ?_; conv => whnf)
            | (refine cmpT (by omega) ?_; conv => whnf)
            | (refine cmpF (by omega) ?_; conv => whnf)
            | fail)
        exact ⟨k + 1, (Sub.id_ 400 rfl auto_ auto_), ⟨by omega, nx⟩, by dsimp only; omega⟩
  · exact ⟨dec_f (fun ⟨j, hj, h⟩ => ha j (by omega) h), rfl⟩
end Go.Proofs.YtcbckmnbdcjeeaaGreatDoor
