/-
  A region that draws its order: the theorem.
-/
import Derived.Test.YtihligeggkpolaaSymP
namespace Go.Proofs.Ytihligeggkpolaa

/-- a chain of edges from j back to i -/
def pathB : Nat → List Oper → Nat → Nat → Bool
  | 0, _, _, _ => false
  | n + 1, all, i, j => match all[j]? with
    | some o => o.after.toList.any fun e => Region.binds .any e && (decide (e.on = i) || pathB n all i e.on)
    | none => false
def edgesB : List Oper → Nat → Bool
  | [], _ => true
  | o :: r, k => o.after.toList.all (fun e => !(Region.binds .any e) || decide (e.on < k)) && edgesB r (k + 1)
def drawB (r : Bool) (all : List Oper) : Bool :=
  edgesB all 0 && (List.range all.length).all fun i => (List.range all.length).all fun j => decide (j ≤ i) ||
    (match all[i]?, all[j]? with | some x, some y => commB r all x y | _, _ => false) || pathB all.length all i j

section
variable {P : Program} {tt : TT} {all : List Oper} {K : List AV → Mem → Prop} {r : Bool}

theorem edgesB_ok : ∀ (l : List Oper) (k : Nat), edgesB l k = true → ∀ (i : Nat) o, l[i]? = some o → ∀ e ∈ o.after, Region.binds .any e = true → e.on < k + i
  | [], _, _, i, o, h => by simp at h
  | x :: r, k, h, i, o, hi => by
    simp only [edgesB, Bool.and_eq_true] at h
    intro e he hb
    cases i with
    | zero =>
      simp at hi; subst hi
      have := List.all_eq_true.1 h.1 e (by simpa using he)
      rw [hb] at this
      simpa using this
    | succ i =>
      have := edgesB_ok r (k + 1) h.2 i o (by simpa using hi) e he hb
      omega

def stT (P : Program) (tt : TT) (r : Bool) (all : List Oper) (i : Nat) (fr : List AV) (M : Mem) (K : List AV → Mem → Prop) : Prop :=
  match all[i]? with
  | none => K fr M
  | some o => stepK P tt (some r) all o fr M K
def wpAnyA (P : Program) (tt : TT) (r : Bool) (all : List Oper) (K : List AV → Mem → Prop) : Nat → Array Bool → List AV → Mem → Prop
  | 0, listed, fr, M => Region.ready .any all.toArray listed = [] ∧ K fr M
  | fuel + 1, listed, fr, M => (Region.ready .any all.toArray listed = [] → K fr M) ∧
    ∀ i ∈ Region.ready .any all.toArray listed, stT P tt r all i fr M (wpAnyA P tt r all K fuel (listed.setIfInBounds i true))

theorem wpAnyA_ok (hT : TOkB P tt = true) {F : Store} {Q : Exit → Act → World → Prop} : ∀ (fuel : Nat) (listed : Array Bool) (S : Store) (ρ : Env) (w : World) (a : Act) (fr : List AV) (M : Mem), wpAnyA P tt r all K fuel listed fr M → RepM S F ρ M w → RepF S ρ a fr →
    (∀ a' w', After S F ρ w K a' w' → Q .normal a' w') → wpAny P .any all.toArray Q fuel listed a w
  | 0, listed, S, ρ, w, a, fr, M, h, hM, hF, hQ => ⟨h.1, hQ _ _ ⟨fr, M, S, ρ, h.2, Store.le_refl _, Env.le_refl _, hM, hF, Wle.refl _⟩⟩
  | fuel + 1, listed, S, ρ, w, a, fr, M, h, hM, hF, hQ => by
    refine ⟨fun h0 => hQ _ _ ⟨fr, M, S, ρ, h.1 h0, Store.le_refl _, Env.le_refl _, hM, hF, Wle.refl _⟩, fun i hi => ?_⟩
    have hs := h.2 i hi
    unfold stT at hs
    unfold wpOp
    obtain ⟨_, o, ho, _⟩ := mem_ready.1 hi
    have ho' : all[i]? = some o := by simpa using ho
    rw [ho'] at hs
    rw [ho]
    simp only at hs ⊢
    have hk := stepK_ok (Q := Q) hT hs hM hF
    have next : ∀ a' w', After S F ρ w (wpAnyA P tt r all K fuel (listed.setIfInBounds i true)) a' w' → wpAny P .any all.toArray Q fuel (listed.setIfInBounds i true) a' w' := by
      rintro a' w' ⟨fr', M', S', ρ', hk, h1, h2, h3, h4, h5⟩
      exact wpAnyA_ok hT fuel _ S' ρ' w' a' fr' M' hk h3 h4 fun a'' w'' h' => hQ _ _ (h'.trans h1 h2 h5)
    split
    · rename_i hw
      rw [if_pos hw] at hk
      exact .inl (Oper.wp_mono next hk)
    · rename_i hw
      rw [if_neg hw] at hk
      exact next _ _ hk

def Closed (all : List Oper) (listed : Array Bool) : Prop :=
  listed.size = all.length ∧ ∀ (j : Nat) o, all[j]? = some o → listed.getD j true = true → ∀ e ∈ o.after, Region.binds .any e = true → listed.getD e.on false = true

theorem path_listed {listed : Array Bool} (hc : Closed all listed) : ∀ (n i j : Nat), pathB n all i j = true → (∀ o, all[j]? = some o → ∀ e ∈ o.after, Region.binds .any e = true → listed.getD e.on false = true) → listed.getD i false = true
  | 0, i, j, h, _ => by simp [pathB] at h
  | n + 1, i, j, h, hj => by
    simp only [pathB] at h
    split at h
    · rename_i o ho
      obtain ⟨e, he, hb⟩ := List.any_eq_true.1 h
      rw [Bool.and_eq_true, Bool.or_eq_true] at hb
      have hl := hj o ho e (by simpa using he) hb.1
      rcases hb.2 with h1 | h1
      · have : e.on = i := by simpa using h1
        rw [← this]; exact hl
      · refine path_listed hc n i e.on h1 fun o' ho' e' he' hb' => hc.2 e.on o' ho' ?_ e' he' hb'
        have hlt : e.on < listed.size := by rw [hc.1]; exact (List.getElem?_eq_some_iff.1 ho').1
        simpa [hlt] using hl
    · simp at h

theorem closed_set {listed : Array Bool} (hc : Closed all listed) {j : Nat} (hj : j ∈ Region.ready .any all.toArray listed) : Closed all (listed.setIfInBounds j true) := by
  refine ⟨by simp [hc.1], fun i o hi hl e he hb => ?_⟩
  obtain ⟨_, o', ho', hall⟩ := mem_ready.1 hj
  by_cases hij : i = j
  · subst hij
    have : o' = o := by
      have h1 : all.toArray[i]? = some o := by simpa using hi
      rw [ho'] at h1; injection h1
    subst this
    exact getD_set_true (hall e he hb)
  · rw [getD_set_ne true (Ne.symm hij)] at hl
    exact getD_set_true (hc.2 i o hi hl e he hb)

theorem step_false {o : Oper} {fr : List AV} {M : Mem} (h : stepK P tt (some r) all o fr M fun _ _ => False) : False := by
  rw [stepK_eq] at h
  split at h
  · exact semK_false _ _ h
  · exact h
  · exact h

theorem draw_first (hB : drawB r all = true) {k : Nat} {x : Oper} (hx : all[k]? = some x) : ∀ (fuel : Nat) (listed : Array Bool) (fr : List AV) (M : Mem), Closed all listed → (∀ m, m < k → listed.getD m true = true) →
    k ∈ Region.ready .any all.toArray listed → stepK P tt (some r) all x fr M (wpAnyA P tt r all K fuel (listed.setIfInBounds k true)) → wpAnyA P tt r all K (fuel + 1) listed fr M := by
  intro fuel
  induction fuel with
  | zero =>
    intro listed fr M hc hpre hk H
    refine ⟨fun h => (by rw [h] at hk; cases hk), fun j hj => ?_⟩
    by_cases hjk : j = k
    · subst hjk
      unfold stT
      rw [hx]
      exact H
    · exfalso
      refine step_false (stepK_mono H fun f M' h => ?_)
      have := ready_mono hj hjk
      rw [h.1] at this
      cases this
  | succ fuel ih =>
    intro listed fr M hc hpre hk H
    refine ⟨fun h => (by rw [h] at hk; cases hk), fun j hj => ?_⟩
    by_cases hjk : j = k
    · subst hjk
      unfold stT
      rw [hx]
      exact H
    · obtain ⟨hjun, y, hy, hall⟩ := mem_ready.1 hj
      have hy' : all[j]? = some y := by simpa using hy
      have hklt : k < j := by
        rcases Nat.lt_or_ge k j with h | h
        · exact h
        · exfalso
          have := hpre j (by omega)
          rw [this] at hjun; cases hjun
      have hkun := (mem_ready.1 hk).1
      have hlen := (List.getElem?_eq_some_iff.1 hx).1
      have hjlen := (List.getElem?_eq_some_iff.1 hy').1
      have hcomm : commB r all x y = true := by
        unfold drawB at hB
        rw [Bool.and_eq_true] at hB
        have h1 := List.all_eq_true.1 hB.2 k (List.mem_range.2 hlen)
        have h2 := List.all_eq_true.1 h1 j (List.mem_range.2 hjlen)
        rw [hx, hy', Bool.or_eq_true, Bool.or_eq_true] at h2
        rcases h2 with (h2 | h2) | h2
        · simp at h2; omega
        · exact h2
        · exfalso
          have := path_listed hc _ k j h2 (fun o ho e he hb => by
            rw [hy'] at ho; cases ho; exact hall e he hb)
          have hks : k < listed.size := by rw [hc.1]; exact hlen
          simp [hks] at this hkun
          rw [this] at hkun; cases hkun
      unfold stT
      rw [hy']
      have H2 := stepK_mono H fun f M' (h : wpAnyA P tt r all K (fuel + 1) (listed.setIfInBounds k true) f M') => h.2 j (ready_mono hj hjk)
      have H3 : stepK P tt (some r) all x fr M fun f M' => stepK P tt (some r) all y f M' (wpAnyA P tt r all K fuel ((listed.setIfInBounds k true).setIfInBounds j true)) :=
        stepK_mono H2 fun f M' h => by unfold stT at h; rw [hy'] at h; exact h
      have H4 := step_swap hcomm fr M _ H3
      refine stepK_mono H4 fun f M' h => ?_
      refine ih (listed.setIfInBounds j true) f M' (closed_set hc hj) (fun m hm => by rw [getD_set_ne true (by omega)]; exact hpre m hm) (ready_mono hk (fun e => hjk e.symm)) ?_
      rw [Array.setIfInBounds_comm _ _ hjk]
      exact h

theorem draw_text (hB : drawB r all = true) : ∀ (l : List Oper) (k : Nat) (listed : Array Bool) (fr : List AV) (M : Mem), all.drop k = l → k + l.length = all.length → Closed all listed → (∀ m, m < k → listed.getD m true = true) → (∀ m, k ≤ m → m < all.length → listed.getD m true = false) →
    opsK P tt (some r) all l fr M K → wpAnyA P tt r all K l.length listed fr M
  | [], k, listed, fr, M, hd, hl, hc, h1, h2, h => by
    refine ⟨?_, h⟩
    cases hr : Region.ready .any all.toArray listed with
    | nil => rfl
    | cons j r =>
      have hj : j ∈ Region.ready .any all.toArray listed := by rw [hr]; simp
      obtain ⟨hu, o, ho, _⟩ := mem_ready.1 hj
      have : j < all.length := by have := (Array.getElem?_eq_some_iff.1 ho).1; simpa using this
      simp at hl
      rw [h1 j (by omega)] at hu; cases hu
  | o :: r, k, listed, fr, M, hd, hl, hc, h1, h2, h => by
    simp only [List.length_cons] at hl ⊢
    have hk : all[k]? = some o := by
      have : (all.drop k)[0]? = some o := by rw [hd]; rfl
      rw [List.getElem?_drop] at this
      simpa using this
    have hB' := hB
    unfold drawB at hB'
    rw [Bool.and_eq_true] at hB'
    have hready : k ∈ Region.ready .any all.toArray listed := by
      rw [mem_ready]
      refine ⟨h2 k (Nat.le_refl _) (by omega), o, by simpa using hk, fun e he hb => ?_⟩
      have hlt := edgesB_ok all 0 hB'.1 k o hk e he hb
      have := h1 e.on (by omega)
      have hs : e.on < listed.size := by rw [hc.1]; omega
      simpa [hs] using this
    refine draw_first hB hk r.length listed fr M hc h1 hready (stepK_mono h fun f M' hh => ?_)
    refine draw_text hB r (k + 1) _ f M' (by rw [← List.drop_drop, hd]; rfl) (by omega) (closed_set hc hready) (fun m hm => ?_) (fun m hm hml => ?_) hh
    · by_cases e : m = k
      · subst e
        have hs : m < listed.size := by rw [hc.1]; omega
        simp [hs]
      · rw [getD_set_ne true (Ne.symm e)]; exact h1 m (by omega)
    · rw [getD_set_ne true (by omega)]; exact h2 m (by omega) hml

/-- the region that draws, walked in the order of the text -/
theorem draw_region (hT : TOkB P tt = true) (hm : P.follows .mixedOrders = true) (hB : drawB r all = true) {S F : Store} {ρ : Env} {M : Mem} {w : World} {a : Act} {fr : List AV} {id : Nat} {Q : Exit → Act → World → Prop}
    (h : opsK P tt (some r) all all fr M K) (hM : RepM S F ρ M w) (hF : RepF S ρ a fr) (hQ : ∀ a' w', After S F ρ w K a' w' → Q .normal a' w') : (Code.region id all.toArray true).wp P Q a w := by
  refine wp_region_any hm ?_
  have hA := draw_text (P := P) (tt := tt) (K := K) hB all 0 (Array.replicate all.length false) fr M rfl (by simp) ⟨by simp, fun j o hj hl => by
      have := (List.getElem?_eq_some_iff.1 hj).1
      simp [this] at hl⟩ (by simp) (fun m _ hm => by simp [hm]) h
  have := wpAnyA_ok hT all.length _ S ρ { w with drawn := w.drawn + 1 } a fr M hA (hM.drawn _) hF (Q := Q) (fun a' w' h' => hQ a' w' (h'.trans (Store.le_refl _) (Env.le_refl _) (Wle.drawn _ _)))
  simpa using this
end

end Go.Proofs.Ytihligeggkpolaa
