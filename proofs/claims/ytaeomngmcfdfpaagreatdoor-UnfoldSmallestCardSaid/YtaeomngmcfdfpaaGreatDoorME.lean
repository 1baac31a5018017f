import Derived.Test.YtaeomngmcfdfpaaGreatDoorA1
import Derived.Test.YtaeomngmcfdfpaaGreatDoorM9
import Derived.Test.YtaeomngmcfdfpaaGreatDoorMD
import Derived.Test.YtaeomngmcfdfpaaGreatDoorF2
import Derived.Laws.BytesArg
import Derived.Test.YtaeomngmcfdfpaaGreatDoorM6
set_option linter.unusedVariables false
set_option linter.unusedSimpArgs false
namespace Go.Proofs.YtaeomngmcfdfpaaGreatDoor
set_option maxRecDepth 100000
set_option maxHeartbeats 16000000
theorem runOk_app {p : Pro} {s : Siz} : ∀ {a b : List Stp} {c : Cfg}, runOk p s c (a ++ b) ↔ runOk p s c a ∧ runOk p s ((trs p c a).getD a.length cfg0) b
 |[], b, c => by simp [runOk, trs, tr]
 |x :: a, b, c => by
  have ih := runOk_app (p := p) (s := s) (a := a) (b := b) (c := apC c (rulX p x) x)
  simp only [List.cons_append, runOk, ih]
  constructor
  ·rintro ⟨h1, h2, h3, h4⟩; exact ⟨⟨h1, h2, h3⟩, h4⟩
  ·rintro ⟨⟨h1, h2, h3⟩, h4⟩; exact ⟨h1, h2, h3, h4⟩
theorem trs_end {p : Pro} (a b : List Stp) (c : Cfg) : (trs p c (a ++ b)).getD (a ++ b).length cfg0 = (trs p ((trs p c a).getD a.length cfg0) b).getD b.length cfg0 := by
 induction a generalizing c with
 |nil => rfl
 |cons x a ih => exact ih (apC c (rulX p x) x)
structure Las where
 start : Cfg
 pre : List Stp
 loop : List Stp
def midL (p : Pro) (l : Las) : Cfg := (trs p l.start l.pre).getD l.pre.length cfg0
def freeB (p : Pro) (s : Siz) (b : List Cfg) (loop : List Stp) (r i : Int) : Prop := (∃ x ∈ loop, x.rule = r ∧ x.process = i) ∨ ∃ d ∈ b, ¬ fcB p s d r i
structure LoopOk (p : Pro) (q : Prp) (s : Siz) (R : Cfg → Prop) (m : Cfg) (loop : List Stp) : Prop where
 run : runOk p s m loop
 back : (trs p m loop).getD loop.length cfg0 = m
 not : ∀ d ∈ trs p m loop, ¬ R d
 free : ∀ r i : Nat, r < p.rules.length → (i : Int) < s.n - s.f → freeB p s (trs p m loop) loop r i
def lasB (p : Pro) (q : Prp) (s : Siz) (R : Cfg → Prop) (l : Las) : Prop := sizQ p q s = 0 ∧ q.kind = 2 ∧ isI p q s l.start ∧ runOk p s l.start l.pre ∧ (∀ d ∈ trs p l.start l.pre, ¬ R d) ∧ LoopOk p q s R (midL p l) l.loop
def fairB (p : Pro) (s : Siz) (b : List Cfg) (loop : List Stp) : Prop := ∀ r i : Nat, r < p.rules.length → (i : Int) < s.n - s.f → freeB p s b loop r i
noncomputable instance decFair (p : Pro) (s : Siz) (b : List Cfg) (loop : List Stp) : Decidable (fairB p s b loop) := Classical.propDecidable _
theorem getD_memA {α : Type} (d : α) {l : List α} {k : Nat} (h : k < l.length) : l.getD k d ∈ l := by
 rw [gD, gL h]; exact List.getElem_mem h
theorem mem_getDA {α : Type} (d : α) {l : List α} {a : α} (h : a ∈ l) : ∃ k, k < l.length ∧ l.getD k d = a := by
 obtain ⟨k, hk, rfl⟩ := List.getElem_of_mem h
 exact ⟨k, hk, by rw [gD, gL hk]; rfl⟩
theorem cmpC_same {a b : Cfg} (h : cmpC a b = 0) : a = b := by
 have hz := orL_zero h
 have e1 := cmpL_eq (hz (cmpL a.shape b.shape) (by simp))
 have e2 := cmpL_eq (hz (cmpL a.states b.states) (by simp))
 have e3 := cmpL_eq (hz (cmpL a.sent b.sent) (by simp))
 have e4 := cmpL_eq (hz (cmpL a.faulty b.faulty) (by simp))
 have e5 := hz (cmpZ a.correct b.correct) (by simp)
 have e6 := hz (cmpZ a.value b.value) (by simp)
 have e5' : a.correct = b.correct := by unfold cmpZ at e5; (repeat' split at e5) <;> omega
 have e6' : a.value = b.value := by unfold cmpZ at e6; (repeat' split at e6) <;> omega
 obtain ⟨a1, a2, a3, a4, a5, a6⟩ := a
 obtain ⟨b1, b2, b3, b4, b5, b6⟩ := b
 simp only at e1 e2 e3 e4 e5' e6'
 rw [e1, e2, e3, e4, e5', e6']
noncomputable instance decLas (p : Pro) (q : Prp) (s : Siz) (l : Las) : Decidable (lasB p q s (rchB q) l) := Classical.propDecidable _
def samB (c : Cfg) (a b : Nat) : Prop := (a < c.states.length ∧ b < c.states.length) ∧ ((a : Int) < c.correct ↔ (b : Int) < c.correct)
theorem swI_cor {c : Cfg} {a b : Nat} (h : samB c a b) (i : Int) : swI a b i < c.correct ↔ i < c.correct := by
 have h2 := h.2
 unfold swI
 (repeat' split) <;> omega
theorem sw_ap2 {c : Cfg} {r : Rul} {x : Stp} {a b : Nat} (h : samB c a b) : apB (swC c a b) r (swX x a b) ↔ apB c r x := by
 have l1 := swI_cor h x.process
 unfold apB
 rw [show (swX x a b).process = swI a b x.process from rfl, show (swC c a b).correct = c.correct from rfl, show (swC c a b).sent = c.sent from rfl, show (swC c a b).faulty = c.faulty from rfl]
 by_cases h : x.process < c.correct
 ·rw [if_pos h, if_pos (l1.2 h)]
 ·rw [if_neg h, if_neg (fun g => h (l1.1 g))]
theorem sw_apC2 {c : Cfg} {r : Rul} {x : Stp} {a b : Nat} (h : samB c a b) : apC (swC c a b) r (swX x a b) = swC (apC c r x) a b := by
 have ha' := h.1.1
 have hb' := h.1.2
 have l1 := swI_cor h x.process
 have e0 : (swC c a b).states.length = c.states.length := swL_len _ _ _
 have e1 : stN (swC c a b) r (swX x a b) = swL (stN c r x) a b := by
  symm
  refine st_of (by rw [swL_len, stN_len, e0]) fun j hj => ?_
  rw [e0] at hj
  rw [swL_get (by rw [stN_len]; exact ha') (by rw [stN_len]; exact hb'), sw_st ha' hb']
  exact getD_map_range _ _ _ (swG_lt ha' hb' hj)
 unfold apC
 rw [e1]
 unfold swC
 dsimp only
 congr 1
 ·by_cases h : x.process < c.correct
  ·rw [if_pos h, if_pos (show (swX x a b).process < c.correct from l1.2 h)]
  ·rw [if_neg h, if_neg (show ¬ (swX x a b).process < c.correct from fun g => h (l1.1 g))]
 ·by_cases h : x.process < c.correct
  ·rw [if_pos h, if_pos (show (swX x a b).process < c.correct from l1.2 h)]
  ·rw [if_neg h, if_neg (show ¬ (swX x a b).process < c.correct from fun g => h (l1.1 g))]
theorem swL_swL {l : List Int} {a b : Nat} (ha : a < l.length) (hb : b < l.length) : swL (swL l a b) a b = l := by
 have hl : (swL (swL l a b) a b).length = l.length := by rw [swL_len, swL_len]
 apply List.ext_getElem?
 intro j
 by_cases hj : j < l.length
 ·have e : (swL (swL l a b) a b).getD j 0 = l.getD j 0 := by
   rw [swL_get (by rw [swL_len]; exact ha) (by rw [swL_len]; exact hb), swL_get ha hb, swG_swG]
  rw [gD, gD, gL (by omega), gL hj] at e
  rw [gL (by omega), gL hj]
  exact congrArg some e
 ·rw [List.getElem?_eq_none (by omega), List.getElem?_eq_none (by omega)]
theorem swC_swC {c : Cfg} {a b : Nat} (h : samB c a b) : swC (swC c a b) a b = c := by
 unfold swC
 dsimp only
 rw [swL_swL h.1.1 h.1.2]
theorem samB_sw {c : Cfg} {a b : Nat} (h : samB c a b) : samB (swC c a b) a b := by
 unfold samB swC
 dsimp only
 rw [swL_len]
 exact h
inductive Eqv : Cfg → Cfg → Prop
 |refl (c : Cfg) : Eqv c c
 |step {c d : Cfg} (a b : Nat) (h : samB c a b) (k : Eqv (swC c a b) d) : Eqv c d
theorem Eqv.trans {c d e : Cfg} (h : Eqv c d) (k : Eqv d e) : Eqv c e := by
 induction h with
 |refl => exact k
 |step a b h _ ih => exact .step a b h (ih k)
theorem Eqv.symm {c d : Cfg} (h : Eqv c d) : Eqv d c := by
 induction h with
 |refl => exact .refl _
 |@step c d a b h _ ih => exact ih.trans (.step a b (samB_sw h) (by rw [swC_swC h]; exact .refl _))
theorem Eqv.sim {p : Pro} {s : Siz} {c d : Cfg} (h : Eqv c d) (ht : p.topology = 1) : ∀ {x : Stp}, Rdy p s c → enB p s c x false → Rdy p s d ∧ ∃ y, enB p s d y false ∧ rulX p y = rulX p x ∧ (apB d (rulX p x) y ↔ apB c (rulX p x) x) ∧ Eqv (apC c (rulX p x) x) (apC d (rulX p x) y) := by
 induction h with
 |refl c => exact fun hr he => ⟨hr, _, he, rfl, Iff.rfl, .refl _⟩
 |@step c d a b h _ ih =>
  intro x hr he
  have hr' := sw_rdy hr h.1.1 h.1.2
  have he' := (sw_en hr ht h.1.1 h.1.2).2 he
  obtain ⟨h1, y, h2, h3, h4, h5⟩ := ih hr' he'
  have e : rulX p (swX x a b) = rulX p x := rfl
  rw [e] at h3 h4 h5
  refine ⟨h1, y, h2, h3, h4.trans (sw_ap2 h), ?_⟩
  rw [sw_apC2 h] at h5
  refine .step a b ?_ h5
  unfold samB apC
  dsimp only
  rw [stN_len]
  exact h
inductive SwL (lo hi : Nat) : List Int → List Int → Prop
 |refl (l : List Int) : SwL lo hi l l
 |step {l m : List Int} (a b : Nat) (ha : lo ≤ a ∧ a < hi) (hb : lo ≤ b ∧ b < hi) (hl : hi ≤ l.length) (k : SwL lo hi (swL l a b) m) : SwL lo hi l m
theorem SwL.trans {lo hi : Nat} {l m n : List Int} (h : SwL lo hi l m) (k : SwL lo hi m n) : SwL lo hi l n := by
 induction h with
 |refl => exact k
 |step a b ha hb hl _ ih => exact .step a b ha hb hl (ih k)
theorem SwL.mono {lo hi lo' hi' : Nat} {l m : List Int} (h : SwL lo hi l m) (h1 : lo' ≤ lo) (h2 : hi ≤ hi') (h3 : hi' ≤ l.length) : SwL lo' hi' l m := by
 induction h with
 |refl => exact .refl _
 |step a b ha hb hl _ ih => exact .step a b ⟨by omega, by omega⟩ ⟨by omega, by omega⟩ h3 (ih (by rw [swL_len]; exact h3))
theorem swL_mid (pre l : List Int) (x y : Int) : swL (pre ++ (y :: x :: l)) pre.length (pre.length + 1) = pre ++ (x :: y :: l) := by
 have e1 : (pre ++ (y :: x :: l)).getD (pre.length + 1) 0 = x := by simp
 have e2 : (pre ++ (y :: x :: l)).getD pre.length 0 = y := by simp
 unfold swL
 rw [e1, e2, List.set_append_right _ _ (Nat.le_refl _), List.set_append_right _ _ (by omega)]
 simp
theorem SwL.perm {l m : List Int} (h : l.Perm m) : ∀ pre post : List Int, SwL pre.length (pre.length + l.length) (pre ++ (l ++ post)) (pre ++ (m ++ post)) := by
 induction h with
 |nil => exact fun _ _ => .refl _
 |cons x _ ih =>
  intro pre post
  have := ih (pre ++ [x]) post
  simp only [List.append_assoc, List.singleton_append, List.length_append, List.length_cons, List.length_nil] at this
  simp only [List.cons_append, List.length_cons]
  exact this.mono (by omega) (by omega) (by simp)
 |swap x y l =>
  intro pre post
  refine .step pre.length (pre.length + 1) ⟨by omega, by simp⟩ ⟨by omega, by simp⟩ (by simp) ?_
  rw [List.cons_append, List.cons_append, swL_mid]
  exact .refl _
 |trans h1 _ ih1 ih2 =>
  intro pre post
  have := ih2 pre post
  rw [← h1.length_eq] at this
  exact (ih1 pre post).trans this
def withSt (c : Cfg) (l : List Int) : Cfg := ⟨c.shape, l, c.correct, c.sent, c.faulty, c.value⟩
theorem SwL.eqv {lo hi : Nat} {l m : List Int} (h : SwL lo hi l m) : ∀ c : Cfg, c.states = l → (∀ a b : Nat, lo ≤ a ∧ a < hi → lo ≤ b ∧ b < hi → ((a : Int) < c.correct ↔ (b : Int) < c.correct)) → Eqv c (withSt c m) := by
 induction h with
 |refl l => rintro c rfl _; exact .refl _
 |@step l m a b ha hb hl _ ih =>
  rintro c rfl hc
  exact .step a b ⟨⟨by omega, by omega⟩, hc a b ha hb⟩ (ih (swC c a b) rfl hc)
theorem eqv_can {p : Pro} {c : Cfg} (ht : p.topology = 1) (h0 : 0 ≤ c.correct) (h1 : c.correct ≤ c.states.length) : Eqv c (canC p c) := by
 have hlt : (c.states.take c.correct.toNat).length = c.correct.toNat := by rw [List.length_take]; omega
 have hld : (c.states.drop c.correct.toNat).length = c.states.length - c.correct.toNat := List.length_drop
 have p1 := (SwL.perm (srtI_perm (c.states.take c.correct.toNat)).symm [] (c.states.drop c.correct.toNat)).eqv c (by simp) (fun a b ha hb => by
  simp only [List.length_nil, Nat.zero_add, hlt] at ha hb
  omega)
 have p2 := (SwL.perm (srtI_perm (c.states.drop c.correct.toNat)).symm (srtI (c.states.take c.correct.toNat)) []).eqv (withSt c (srtI (c.states.take c.correct.toNat) ++ c.states.drop c.correct.toNat)) (by simp [withSt]) (fun a b ha hb => by
  rw [srtI_len, hlt, hld] at ha hb
  show ((a : Int) < c.correct ↔ (b : Int) < c.correct)
  omega)
 rw [canC_yes c ht]
 have e1 : withSt c ([] ++ (srtI (c.states.take c.correct.toNat) ++ c.states.drop c.correct.toNat)) = withSt c (srtI (c.states.take c.correct.toNat) ++ c.states.drop c.correct.toNat) := rfl
 rw [e1] at p1
 have e2 : withSt (withSt c (srtI (c.states.take c.correct.toNat) ++ c.states.drop c.correct.toNat)) (srtI (c.states.take c.correct.toNat) ++ (srtI (c.states.drop c.correct.toNat) ++ [])) = ⟨c.shape, srtI (c.states.take c.correct.toNat) ++ srtI (c.states.drop c.correct.toNat), c.correct, c.sent, c.faulty, c.value⟩ := by
  rw [List.append_nil]; rfl
 rw [e2] at p2
 exact p1.trans p2
theorem swL_perm {l : List Int} {a b : Nat} (ha : a < l.length) (hb : b < l.length) : (swL l a b).Perm l := by
 have e1 : l.getD a 0 = l[a] := by rw [gD, gL ha]; rfl
 have e2 : l.getD b 0 = l[b] := by rw [gD, gL hb]; rfl
 unfold swL
 rw [e1, e2]
 exact List.set_set_perm ha hb
theorem srtI_eq {l m : List Int} (h : l.Perm m) : srtI l = srtI m := srtI_of ((srtI_perm l).trans h) (srtI_up l)
theorem swL_take {l : List Int} {a b k : Nat} (ha : a < l.length) (hb : b < l.length) (h : a < k ↔ b < k) : ((swL l a b).take k).Perm (l.take k) := by
 by_cases h1 : a < k
 ·have h2 := h.1 h1
  have e : (swL l a b).take k = swL (l.take k) a b := by
   unfold swL
   rw [List.take_set, List.take_set, getD_take h1, getD_take h2]
  rw [e]
  exact swL_perm (by rw [List.length_take]; omega) (by rw [List.length_take]; omega)
 ·have e : (swL l a b).take k = l.take k := by
   unfold swL
   rw [List.take_set, List.take_set, List.set_eq_of_length_le (by rw [List.length_set, List.length_take]; omega), List.set_eq_of_length_le (by rw [List.length_take]; omega)]
  rw [e]
theorem swL_drop {l : List Int} {a b k : Nat} (ha : a < l.length) (hb : b < l.length) (h : a < k ↔ b < k) : ((swL l a b).drop k).Perm (l.drop k) := by
 have h1 := swL_take ha hb h
 have h2 := swL_perm ha hb
 have h3 : ((swL l a b).take k ++ (swL l a b).drop k).Perm ((swL l a b).take k ++ l.drop k) := by
  rw [List.take_append_drop]
  refine h2.trans ?_
  have := h1.symm.append_right (l.drop k)
  rwa [List.take_append_drop] at this
 exact (List.perm_append_left_iff _).1 h3
theorem can_sw {p : Pro} {c : Cfg} {a b : Nat} (h : samB c a b) (h0 : 0 ≤ c.correct) : canC p (swC c a b) = canC p c ∨ p.topology ≠ 1 := by
 by_cases ht : p.topology = 1
 ·left
  have hk : a < c.correct.toNat ↔ b < c.correct.toNat := by have := h.2; omega
  rw [canC_yes _ ht, canC_yes _ ht]
  have e1 : srtI ((swC c a b).states.take (swC c a b).correct.toNat) = srtI (c.states.take c.correct.toNat) := srtI_eq (swL_take h.1.1 h.1.2 hk)
  have e2 : srtI ((swC c a b).states.drop (swC c a b).correct.toNat) = srtI (c.states.drop c.correct.toNat) := srtI_eq (swL_drop h.1.1 h.1.2 hk)
  rw [e1, e2]
  rfl
 ·exact .inr ht
theorem Eqv.can {p : Pro} {c d : Cfg} (h : Eqv c d) (ht : p.topology = 1) : 0 ≤ c.correct → canC p c = canC p d := by
 induction h with
 |refl => exact fun _ => rfl
 |@step c d a b h _ ih =>
  intro h0
  rcases can_sw (p := p) h h0 with e | e
  ·exact e.symm.trans (ih h0)
  ·exact absurd ht e
theorem can_sim {p : Pro} {s : Siz} {c d : Cfg} {x : Stp} (hc : Rdy p s c) (hd : Rdy p s d) (hcd : canC p c = canC p d) (he : enB p s c x false) :
  ∃ y, enB p s d y false ∧ rulX p y = rulX p x ∧ (apB d (rulX p x) y ↔ apB c (rulX p x) x) ∧ canC p (apC c (rulX p x) x) = canC p (apC d (rulX p x) y) := by
 by_cases ht : p.topology = 1
 ·have h1 := hc.plain
  have h2 := hd.plain
  have he1 := eqv_can ht h1.2.1 h1.2.2
  have he2 := eqv_can ht h2.2.1 h2.2.2
  rw [hcd] at he1
  obtain ⟨_, y, k1, k2, k3, k4⟩ := (he1.trans he2.symm).sim ht hc he
  exact ⟨y, k1, k2, k3, k4.can ht h1.2.1⟩
 ·rw [canC_no c ht, canC_no d ht] at hcd
  subst hcd
  exact ⟨x, he, rfl, Iff.rfl, rfl⟩
def by1 (n : Int) : Int := n % 256
def by2 (n : Int) : Int := n / 256 % 256
def by3 (n : Int) : Int := n / 65536 % 256
def keyI (l : List Int) : List Int := (l.length : Int) % 256 :: l.flatMap fun n => [by1 n, by2 n, by3 n]
theorem keyI_b (l : List Int) : ∀ x ∈ keyI l, 0 ≤ x ∧ x < 256 := by
 intro x hx
 unfold keyI at hx
 rcases List.mem_cons.1 hx with rfl | hx
 ·omega
 ·obtain ⟨n, _, hn⟩ := List.mem_flatMap.1 hx
  simp only [List.mem_cons, List.not_mem_nil, or_false] at hn
  unfold by1 by2 by3 at hn
  omega
def keyZ (c : Cfg) : List Int := keyI c.shape ++ (keyI c.states ++ (keyI c.sent ++ (keyI c.faulty ++ keyI [c.correct, c.value])))
abbrev strZ (l : List Int) : ByteArray := strOfNums l
def keyB (c : Cfg) : ByteArray := strZ (keyZ c)
def keyT (l : List Int) (k : Nat) : List Int := (l.length : Int) % 256 :: (l.take k).flatMap fun n => [by1 n, by2 n, by3 n]
theorem keyT_all (l : List Int) : keyT l l.length = keyI l := by unfold keyT keyI; rw [List.take_length]
theorem keyT_zero (l : List Int) : keyT l 0 = [(l.length : Int) % 256] := by simp [keyT]
theorem keyT_up {l : List Int} {k : Nat} (h : k < l.length) : keyT l (k + 1) = keyT l k ++ [by1 (l.getD k 0), by2 (l.getD k 0), by3 (l.getD k 0)] := by
 have e : l.getD k 0 = l[k] := by rw [gD, gL h]; rfl
 unfold keyT
 rw [List.take_succ_eq_append_getElem h, List.flatMap_append, e]
 simp
theorem keyT_len (l : List Int) (k : Nat) : (keyT l k).length ≤ 1 + 3 * k := by
 have h : ∀ m : List Int, (m.flatMap fun n => [by1 n, by2 n, by3 n]).length = 3 * m.length := by
  intro m
  induction m with
  |nil => rfl
  |cons a m ih => rw [List.flatMap_cons, List.length_append, ih, List.length_cons]; simp; omega
 unfold keyT
 rw [List.length_cons, h, List.length_take]
 omega
theorem keyI_len (l : List Int) : (keyI l).length ≤ 1 + 3 * l.length := by rw [← keyT_all]; exact keyT_len l _
structure Org where
 c : Cfg
 src : Int
 st : Stp
def org0 : Org := ⟨cfg0, 0, stp0⟩
def encOg (o : Org) : List AV := [.sl 0 encI o.c.shape, .sl 0 encI o.c.states, .int .i64 o.c.correct, .sl 0 encI o.c.sent, .sl 0 encI o.c.faulty, .int .i64 o.c.value, .int .i64 o.src, .int .i64 o.st.rule, .int .i64 o.st.process, .int .i64 o.st.partner]
def nmC (p : Pro) (ex : Bool) (c : Cfg) : Cfg := match ex with
 |true => c
 |false => canC p c
structure Sys (p : Pro) (q : Prp) (s : Siz) : Prop where
 hp : ¬ bigP p
 hq : ¬ bigQ q
 hz : sizQ p q s = 0
theorem Sys.siz {p : Pro} {q : Prp} {s : Siz} (S : Sys p q s) : propE p q = 0 ∧ sizeE p s = 0 := sizQ_ok S.hz
theorem vc_wide {p : Pro} {s : Siz} {c : Cfg} (hp : ¬ bigP p) (hz : sizeE p s = 0) (h : VC p s c) : wideB c = false := by
 have hle := bigP_le hp
 have h2 := sizeE_ok hz
 have hl := h.len
 have e1 : c.states.length ≤ 100 := by
  unfold modN at hl
  split at hl <;> omega
 have e2 : c.shape.length ≤ 100 := by
  by_cases ht : p.topology = 4
  ·have := (h.tre ht).1; omega
  ·have := h.non ht; omega
 have e3 := h.snl
 have e4 := h.fal
 unfold wideB
 simp only [Bool.or_eq_false_iff, decide_eq_false_iff_not]
 refine ⟨⟨⟨?_, ?_⟩, ?_⟩, ?_⟩ <;> omega
theorem Sys.rdy {p : Pro} {q : Prp} {s : Siz} (S : Sys p q s) {c : Cfg} (h : isI p q s c) : Rdy p s c :=
 rdy_of S.hp (vc_wide S.hp S.siz.2 h.1) S.siz.2 h.1
inductive Wn (p : Pro) (q : Prp) (s : Siz) : Nat → Cfg → Prop
 |ini {c : Cfg} (h : isI p q s c) : Wn p q s 0 c
 |stp {n : Nat} {c : Cfg} (x : Stp) (h : Wn p q s n c) (he : enB p s c x false) (ha : apB c (rulX p x) x) : Wn p q s (n + 1) (apC c (rulX p x) x)
section
variable {p : Pro} {q : Prp} {s : Siz}
theorem Wn.rdy (S : Sys p q s) {n : Nat} {c : Cfg} (h : Wn p q s n c) : Rdy p s c := by
 induction h with
 |ini h => exact S.rdy h
 |stp x _ he ha ih => exact ih.next he ha
theorem Wn.of_run {c : Cfg} {l : List Stp} : ∀ {n : Nat}, Wn p q s n c → runOk p s c l → Wn p q s (n + l.length) ((trs p c l).getD l.length cfg0) := by
 induction l generalizing c with
 |nil => exact fun h _ => h
 |cons x l ih =>
  intro n h hr
  have := ih (Wn.stp x h hr.1 hr.2.1) hr.2.2
  have e : n + 1 + l.length = n + (x :: l).length := by simp; omega
  rw [e] at this
  exact this
theorem Wn.to_run {n : Nat} {c : Cfg} (h : Wn p q s n c) : ∃ c0 l, isI p q s c0 ∧ runOk p s c0 l ∧ l.length = n ∧ (trs p c0 l).getD l.length cfg0 = c := by
 induction h with
 |@ini c h => exact ⟨c, [], h, trivial, rfl, rfl⟩
 |@stp n c x _ he ha ih =>
  obtain ⟨c0, l, h1, h2, h3, h4⟩ := ih
  refine ⟨c0, l ++ [x], h1, runOk_app.2 ⟨h2, ?_⟩, by simp [h3], ?_⟩
  ·rw [h4]; exact ⟨he, ha, trivial⟩
  ·rw [trs_end, h4]; rfl
variable {ex : Bool}
def Rp (p : Pro) (q : Prp) (s : Siz) (ex : Bool) (c : Cfg) : Prop := Rdy p s c ∧ ∃ n d, Wn p q s n d ∧ nmC p ex d = nmC p ex c
theorem Wn.rp (S : Sys p q s) {n : Nat} {c : Cfg} (h : Wn p q s n c) : Rp p q s ex c := ⟨h.rdy S, n, c, h, rfl⟩
theorem nodup_le {l : List Cfg} : ∀ {m : List Cfg}, l.Nodup → (∀ a ∈ l, a ∈ m) → l.length ≤ m.length := by
 classical
 induction l with
 |nil => intro m _ _; exact Nat.zero_le _
 |cons a l ih =>
  intro m hl h
  rw [List.nodup_cons] at hl
  have hm := h a List.mem_cons_self
  have := ih (m := m.erase a) hl.2 fun b hb => (List.mem_erase_of_ne (show b ≠ a from fun e => by subst e; exact hl.1 hb)).2 (h b (List.mem_cons_of_mem _ hb))
  rw [List.length_erase_of_mem hm] at this
  have := List.length_pos_of_mem hm
  rw [List.length_cons]
  omega
def ascC (l : List Cfg) : Prop := l.Pairwise fun a b => cmpC a b < 0
def KD (p : Pro) (q : Prp) (s : Siz) (n : Nat) (k : Cfg) : Prop := ∃ m c, m ≤ n ∧ Wn p q s m c ∧ canC p c = k
def BadAt (p : Pro) (q : Prp) (s : Siz) (n : Nat) : Prop := ∃ c, Wn p q s n c ∧ badB p q c
def OverAt (p : Pro) (q : Prp) (s : Siz) (n : Nat) : Prop := ∃ c x, Wn p q s n c ∧ enB p s c x false ∧ ¬ apB c (rulX p x) x
def FewAt (p : Pro) (q : Prp) (s : Siz) (n : Nat) : Prop := ∃ L : List Cfg, L.length ≤ 4000 ∧ ∀ k, KD p q s n k → k ∈ L
def EndAt (p : Pro) (q : Prp) (s : Siz) (n : Nat) : Prop := ∀ k, KD p q s n k → ∃ m, m < n ∧ KD p q s m k
def OnAt (p : Pro) (q : Prp) (s : Siz) (n : Nat) : Prop := ¬ EndAt p q s n ∧ ¬ BadAt p q s n ∧ FewAt p q s n ∧ ¬ OverAt p q s n
structure ShP (p : Pro) (q : Prp) (s : Siz) (n : Nat) (is : Bool) (e : Int) : Prop where
 on : ∀ m, m < n → OnAt p q s m
 out : (EndAt p q s n ∧ is = false ∧ e = 0) ∨ (¬ EndAt p q s n ∧ BadAt p q s n ∧ is = true ∧ e = 0) ∨ (¬ EndAt p q s n ∧ ¬ BadAt p q s n ∧ (¬ FewAt p q s n ∨ OverAt p q s n) ∧ is = false ∧ e = 4)
theorem ShP.not_on {n : Nat} {is : Bool} {e : Int} (h : ShP p q s n is e) : ¬ OnAt p q s n := by
 rintro ⟨h1, h2, h3, h4⟩
 rcases h.out with ⟨a, _⟩ | ⟨_, a, _⟩ | ⟨_, _, a | a, _⟩
 ·exact h1 a
 ·exact h2 a
 ·exact a h3
 ·exact h4 a
theorem ShP.one {n n' : Nat} {is is' : Bool} {e e' : Int} (h : ShP p q s n is e) (k : ShP p q s n' is' e') : n = n' ∧ is = is' ∧ e = e' := by
 have hn : n = n' := by
  rcases Nat.lt_trichotomy n n' with g | g | g
  ·exact absurd (k.on n g) h.not_on
  ·exact g
  ·exact absurd (h.on n' g) k.not_on
 subst hn
 refine ⟨rfl, ?_⟩
 rcases h.out with ⟨a1, a2, a3⟩ | ⟨a1, a2, a3, a4⟩ | ⟨a1, a2, _, a3, a4⟩ <;> rcases k.out with ⟨b1, b2, b3⟩ | ⟨b1, b2, b3, b4⟩ | ⟨b1, b2, _, b3, b4⟩ <;> first
  |exact absurd a1 b1
  |exact absurd b1 a1
  |exact absurd a2 b2
  |exact absurd b2 a2
  |(subst_vars; exact ⟨rfl, rfl⟩)
theorem KD.mono {n m : Nat} (h : n ≤ m) {k : Cfg} (hk : KD p q s n k) : KD p q s m k := by
 obtain ⟨a, c, h1, h2, h3⟩ := hk
 exact ⟨a, c, by omega, h2, h3⟩
theorem KD.step (S : Sys p q s) {n : Nat} {c : Cfg} {x : Stp} (hc : Rdy p s c) (hk : KD p q s n (canC p c)) (he : enB p s c x false) (ha : apB c (rulX p x) x) : KD p q s (n + 1) (canC p (apC c (rulX p x) x)) := by
 obtain ⟨m, d, h1, h2, h3⟩ := hk
 obtain ⟨y, k1, k2, k3, k4⟩ := can_sim hc (h2.rdy S) h3.symm he
 refine ⟨m + 1, apC d (rulX p y) y, by omega, h2.stp y k1 (by rw [k2]; exact k3.2 ha), ?_⟩
 rw [k2]; exact k4.symm
theorem bad_can {c d : Cfg} (hc : Rdy p s c) (hd : Rdy p s d) (h : canC p c = canC p d) : badB p q c ↔ badB p q d := by
 rw [← canC_bad p q hc.plain.2.2, ← canC_bad p q hd.plain.2.2, h]
end
end Go.Proofs.YtaeomngmcfdfpaaGreatDoor
namespace Go.Proofs.YtaeomngmcfdfpaaGreatDoor
set_option maxRecDepth 100000
def encU (n : Int) : List AV := [.int .u8 n]
def rowU (l : List Int) : Blk := .row 5 0 encU l
def keyM (m : List Int) : List (Nat × Blk) := [(7000, .box 206 [.row 7001 m.length 1]), (7001, rowU m)]
def keyN (m : List Int) : List (Nat × Blk) := [(7000, .box 206 [.row 7002 m.length 1]), (7001, .dead), (7002, rowU m)]
theorem wrap8 (n : Int) : IntKind.u8.wrap n = n % 256 := by
 simp [IntKind.wrap, IntKind.signed, IntKind.bits]
theorem shr8 (n : Int) : n.fdiv 256 = n / 256 := Int.fdiv_eq_ediv_of_nonneg n (by omega)
theorem shr16 (n : Int) : n.fdiv 65536 = n / 65536 := Int.fdiv_eq_ediv_of_nonneg n (by omega)
theorem keyA (m l : List Int) (hm : m.length ≤ 1000000) (hl : l.length ≤ 1000000) :
  Spec Tryz.prog 164 [.sl 0 encI l, .ptr 7000 0] (Mem.ofL (keyM m)) (fun u M => u = .tup [] ∧ M = Mem.ofL (keyN (m ++ keyI l))) := by
 refine Spec.intro tt_ok mx_ok (keyM m) Tryz.func164 rfl (by decide) ?_
 conv => whnf
 refine arW trivial ?_
 conv => whnf
 refine bldI 0 encU [(l.length : Int) % 256] (by rw [wrap8]; rfl) ?_
 conv => whnf
 refine appI [(l.length : Int) % 256] rfl lI ?_
 conv => whnf
 refine WPc.loopF tt_ok mx_ok (fun k : Nat => k ≤ l.length) (fun k => [(9, .top), (10, .top), (13, .int .i64 (k : Int))]) (fun k => keyN (m ++ keyT l k)) (fun k => l.length - k) 0 (Nat.zero_le _) ?_; conv => whnf
 refine ⟨by rw [keyT_zero]; exact Sub.by_ [(7000, .old 7000), (7001, .old 7001), (7002, .old 10)] _ 400 rfl (auto_) (auto_), ?_⟩
 rintro k hk
 have hkl : (m ++ keyT l k).length ≤ 4000001 := by
  have := keyT_len l k
  rw [List.length_append]
  omega
 conv => whnf
 refine cmpI ?_ ?_ <;> (intro g1; conv => whnf)
 ·have hlt : k < l.length := by omega
  repeat' ((first|refine nI ?_|refine aI ?_|refine tI ?_|refine fI ?_|fail);conv => whnf)
  refine arW trivial ?_
  conv => whnf
  refine nI ?_
  conv => whnf
  refine arW trivial ?_
  conv => whnf
  refine nI ?_
  conv => whnf
  refine arW trivial ?_
  conv => whnf
  refine bldI 0 encU [by1 (l.getD k 0), by2 (l.getD k 0), by3 (l.getD k 0)] ?_ ?_
  ·rw [wrap8, wrap8, wrap8, tN]
   show _ = [[AV.int .u8 (l.getD k 0 % 256)], [AV.int .u8 ((l.getD k 0).fdiv 256 % 256)], [AV.int .u8 ((l.getD k 0).fdiv 65536 % 256)]]
   rw [shr8, shr16]
   rfl
  conv => whnf
  refine appI [by1 (l.getD k 0), by2 (l.getD k 0), by3 (l.getD k 0)] rfl lI ?_
  conv => whnf
  repeat' ((first|refine nI ?_|refine aI ?_|refine tI ?_|refine fI ?_|fail);conv => whnf)
  refine ⟨k + 1, ?_, by omega, by dsimp only; omega⟩
  dsimp only
  rw [keyT_up hlt, ← List.append_assoc]
  exact Sub.by_ [(7000, .old 7000), (7001, .old 7001), (7002, .old 27)] _ 400 rfl (auto_) (auto_)
 ·obtain rfl : k = l.length := by omega
  rw [keyT_all]
  exact ⟨rfl, rfl⟩
theorem keyF (c : Cfg) (h1 : c.shape.length ≤ 1000) (h2 : c.states.length ≤ 1000) (h3 : c.sent.length ≤ 1000) (h4 : c.faulty.length ≤ 1000) :
  PSpec Tryz.prog 137 [.agg (encC c)] (fun u => u = .str (keyB c)) := by
 have b1 := keyI_len c.shape
 have b2 := keyI_len c.states
 have b3 := keyI_len c.sent
 have b4 := keyI_len c.faulty
 refine PSpec.intro tt_ok mx_ok Tryz.func137 rfl (by decide) ?_; (conv => whnf)
 refine boxP rfl ?_
 rw [putD_eq]
 dsimp only [setD, List.set]
 simp only [opsK]
 rw [stepK_eq]
 simp only [gv, opnds, List.map_cons, List.map_nil, semK, evM, setD]
 dsimp only [avOf, evR, evN, rsK, List.set]
 rw [forceK_eq]
 dsimp only [List.getD, List.set, codeK, opsK]
 rw [stepK_eq]
 simp only [gv, opnds, List.map_cons, List.map_nil, semK, evM, setD]
 conv => whnf
 refine Spec.call [(7000, .old 3), (7001, .nil 1)] (keyM []) 400 rfl (auto_) (auto_) (keyA [] c.shape (by simp) (by omega)) ?_
 rintro u M' ⟨rfl, rfl⟩
 refine ⟨[(3, .old 7000), (1003, .old 7002)], [(3, .box 206 [.row 1003 (keyI c.shape).length 1]), (1003, rowU (keyI c.shape))], .tup [], rfl, (auto_), trivial, ?_⟩
 conv => whnf
 refine Spec.call [(7000, .old 3), (7001, .old 1003)] (keyM (keyI c.shape)) 400 rfl (auto_) (auto_) (keyA (keyI c.shape) c.states (by (try simp only [List.length_append]); omega) (by omega)) ?_
 rintro u M' ⟨rfl, rfl⟩
 refine ⟨[(3, .old 7000), (1003, .old 7001), (1004, .old 7002)], [(3, .box 206 [.row 1004 (keyI c.shape ++ keyI c.states).length 1]), (1003, .dead), (1004, rowU (keyI c.shape ++ keyI c.states))], .tup [], rfl, (auto_), trivial, ?_⟩
 conv => whnf
 refine Spec.call [(7000, .old 3), (7001, .old 1004)] (keyM ((keyI c.shape ++ keyI c.states))) 400 rfl (auto_) (auto_) (keyA ((keyI c.shape ++ keyI c.states)) c.sent (by (try simp only [List.length_append]); omega) (by omega)) ?_
 rintro u M' ⟨rfl, rfl⟩
 refine ⟨[(3, .old 7000), (1004, .old 7001), (1005, .old 7002)], [(3, .box 206 [.row 1005 ((keyI c.shape ++ keyI c.states) ++ keyI c.sent).length 1]), (1004, .dead), (1005, rowU ((keyI c.shape ++ keyI c.states) ++ keyI c.sent))], .tup [], rfl, (auto_), trivial, ?_⟩
 conv => whnf
 refine Spec.call [(7000, .old 3), (7001, .old 1005)] (keyM (((keyI c.shape ++ keyI c.states) ++ keyI c.sent))) 400 rfl (auto_) (auto_) (keyA (((keyI c.shape ++ keyI c.states) ++ keyI c.sent)) c.faulty (by (try simp only [List.length_append]); omega) (by omega)) ?_
 rintro u M' ⟨rfl, rfl⟩
 refine ⟨[(3, .old 7000), (1005, .old 7001), (1006, .old 7002)], [(3, .box 206 [.row 1006 (((keyI c.shape ++ keyI c.states) ++ keyI c.sent) ++ keyI c.faulty).length 1]), (1005, .dead), (1006, rowU (((keyI c.shape ++ keyI c.states) ++ keyI c.sent) ++ keyI c.faulty))], .tup [], rfl, (auto_), trivial, ?_⟩
 conv => whnf
 refine Spec.hand 27 rfl ?_
 refine Spec.call [(7000, .old 3), (7001, .old 1006)] (keyM (keyI c.shape ++ keyI c.states ++ keyI c.sent ++ keyI c.faulty)) 400 rfl (auto_) (auto_) (keyA (keyI c.shape ++ keyI c.states ++ keyI c.sent ++ keyI c.faulty) [c.correct, c.value] (by (try simp only [List.length_append]); omega) (by simp)) ?_
 rintro u M' ⟨rfl, rfl⟩
 refine ⟨[(3, .old 7000), (1006, .old 7001), (1007, .old 7002)], [(3, .box 206 [.row 1007 (keyI c.shape ++ keyI c.states ++ keyI c.sent ++ keyI c.faulty ++ keyI [c.correct, c.value]).length 1]), (1006, .dead), (1007, rowU (keyI c.shape ++ keyI c.states ++ keyI c.sent ++ keyI c.faulty ++ keyI [c.correct, c.value]))], .tup [], rfl, (auto_), trivial, ?_⟩
 conv => whnf
 have e : keyI c.shape ++ keyI c.states ++ keyI c.sent ++ keyI c.faulty ++ keyI [c.correct, c.value] = keyZ c := by
  unfold keyZ
  simp only [List.append_assoc]
 refine strI (keyI c.shape ++ keyI c.states ++ keyI c.sent ++ keyI c.faulty ++ keyI [c.correct, c.value]) ?_ ?_
 ·rfl
 conv => whnf
 rw [e]
 exact ⟨rfl, rfl⟩
def smlI (l : List Int) : Prop := l.length < 256 ∧ ∀ x ∈ l, 0 ≤ x ∧ x < 16777216
structure SmlC (c : Cfg) : Prop where
 shape : smlI c.shape
 states : smlI c.states
 sent : smlI c.sent
 faulty : smlI c.faulty
 nums : smlI [c.correct, c.value]
theorem by_inj {n m : Int} (hn : 0 ≤ n ∧ n < 16777216) (hm : 0 ≤ m ∧ m < 16777216) (h1 : by1 n = by1 m) (h2 : by2 n = by2 m) (h3 : by3 n = by3 m) : n = m := by
 unfold by1 at h1
 unfold by2 at h2
 unfold by3 at h3
 omega
theorem flat_inj : ∀ {l m : List Int} {x y : List Int}, l.length = m.length → (∀ a ∈ l, 0 ≤ a ∧ a < 16777216) → (∀ a ∈ m, 0 ≤ a ∧ a < 16777216) →
  (l.flatMap fun n => [by1 n, by2 n, by3 n]) ++ x = (m.flatMap fun n => [by1 n, by2 n, by3 n]) ++ y → l = m ∧ x = y
 |[], [], x, y, _, _, _, h => ⟨rfl, h⟩
 |a :: l, b :: m, x, y, hl, ha, hb, h => by
  simp only [List.flatMap_cons, List.cons_append, List.nil_append, List.append_assoc, List.cons.injEq] at h
  obtain ⟨h1, h2, h3, h⟩ := h
  have e := by_inj (ha a List.mem_cons_self) (hb b List.mem_cons_self) h1 h2 h3
  obtain ⟨e1, e2⟩ := flat_inj (by simpa using hl) (fun c hc => ha c (List.mem_cons_of_mem _ hc)) (fun c hc => hb c (List.mem_cons_of_mem _ hc)) h
  exact ⟨by rw [e, e1], e2⟩
theorem keyI_inj {l m x y : List Int} (hl : smlI l) (hm : smlI m) (h : keyI l ++ x = keyI m ++ y) : l = m ∧ x = y := by
 unfold keyI at h
 simp only [List.cons_append, List.cons.injEq] at h
 obtain ⟨h1, h⟩ := h
 have e : l.length = m.length := by
  have := hl.1
  have := hm.1
  omega
 exact flat_inj e hl.2 hm.2 h
theorem keyZ_inj {a b : Cfg} (ha : SmlC a) (hb : SmlC b) (h : keyZ a = keyZ b) : a = b := by
 unfold keyZ at h
 obtain ⟨e1, h⟩ := keyI_inj ha.shape hb.shape h
 obtain ⟨e2, h⟩ := keyI_inj ha.states hb.states h
 obtain ⟨e3, h⟩ := keyI_inj ha.sent hb.sent h
 obtain ⟨e4, h⟩ := keyI_inj ha.faulty hb.faulty h
 have h' : keyI [a.correct, a.value] ++ [] = keyI [b.correct, b.value] ++ [] := by rw [List.append_nil, List.append_nil]; exact h
 obtain ⟨e5, _⟩ := keyI_inj ha.nums hb.nums h'
 obtain ⟨a1, a2, a3, a4, a5, a6⟩ := a
 obtain ⟨b1, b2, b3, b4, b5, b6⟩ := b
 simp only [List.cons.injEq] at e1 e2 e3 e4 e5
 obtain ⟨e5, e6, _⟩ := e5
 subst e1 e2 e3 e4 e5 e6
 rfl
theorem keyZ_b (c : Cfg) : ∀ x ∈ keyZ c, 0 ≤ x ∧ x < 256 := by
 intro x hx
 unfold keyZ at hx
 simp only [List.mem_append] at hx
 rcases hx with h | h | h | h | h <;> exact keyI_b _ x h
theorem strZ_inj {l m : List Int} (hl : ∀ x ∈ l, 0 ≤ x ∧ x < 256) (hm : ∀ x ∈ m, 0 ≤ x ∧ x < 256) (h : strZ l = strZ m) : l = m := by
 unfold strZ strOfNums at h
 simp only [ByteArray.mk.injEq] at h
 have h2 : (l.map fun n => UInt8.ofNat n.toNat) = m.map fun n => UInt8.ofNat n.toNat := by
  have := congrArg Array.toList h
  simpa using this
 clear h
 induction l generalizing m with
 |nil => cases m with
  |nil => rfl
  |cons b m => simp at h2
 |cons a l ih => cases m with
  |nil => simp at h2
  |cons b m =>
   simp only [List.map_cons, List.cons.injEq] at h2
   have ha := hl a List.mem_cons_self
   have hb := hm b List.mem_cons_self
   have e : a.toNat = b.toNat := by
    have h3 := congrArg UInt8.toNat h2.1
    rw [UInt8.toNat_ofNat', UInt8.toNat_ofNat'] at h3
    omega
   rw [ih (fun x hx => hl x (List.mem_cons_of_mem _ hx)) (fun x hx => hm x (List.mem_cons_of_mem _ hx)) h2.2, show a = b by omega]
theorem keyB_inj {a b : Cfg} (ha : SmlC a) (hb : SmlC b) (h : keyB a = keyB b) : a = b := keyZ_inj ha hb (strZ_inj (keyZ_b a) (keyZ_b b) h)
theorem sml_of {l : List Int} {n : Int} (hl : l.length < 256) (h : inR l n) (hn : n ≤ 16777216) : smlI l := by
 rw [inR_mem] at h
 exact ⟨hl, fun x hx => by have := h x hx; omega⟩
theorem skipN_num : ∀ (l : List Int) (n : Nat), skipN n l = some [] → ∀ x ∈ l, x = 0 ∨ x = 2
 |[], _, _, x, hx => by cases hx
 |y :: ys, 0, h, x, hx => by rw [skipN_zero] at h; cases h
 |y :: ys, n + 1, h, x, hx => by
  rw [skipN_cons] at h
  by_cases h0 : y = 0
  ·rw [if_pos h0] at h
   rcases List.mem_cons.1 hx with rfl | hx
   ·exact .inl h0
   ·exact skipN_num ys n h x hx
  ·rw [if_neg h0] at h
   by_cases h2 : y = 2
   ·rw [if_pos h2] at h
    rcases List.mem_cons.1 hx with rfl | hx
    ·exact .inr h2
    ·exact skipN_num ys (n + 2) h x hx
   ·rw [if_neg h2] at h; cases h
theorem Rdy.sml {p : Pro} {s : Siz} {c : Cfg} (h : Rdy p s c) : SmlC c := by
 have hle := bigP_le h.big
 have hw := wide_le h.wide
 have hv := h.vc
 have hs := h.sz
 refine ⟨?_, sml_of (by omega) hv.sta (by omega), sml_of (by omega) hv.sen (by omega), sml_of (by omega) hv.fau ?_, ⟨by simp, fun x hx => ?_⟩⟩
 ·by_cases ht : p.topology = 4
  ·have h1 := skipN_num _ _ (hv.tre ht).2
   exact ⟨by omega, fun x hx => by have := h1 x hx; omega⟩
  ·have : c.shape = [] := List.length_eq_zero_iff.1 (hv.non ht)
   rw [this]
   exact ⟨by simp, fun x hx => by cases hx⟩
 ·unfold whL
  split <;> omega
 ·have h1 := hv.cor
  have h2 := hv.va0
  have h3 := hv.va1
  simp only [List.mem_cons, List.not_mem_nil, or_false] at hx
  omega
theorem SmlC.can {p : Pro} {c : Cfg} (h : SmlC c) : SmlC (canC p c) := by
 refine ⟨by rw [canC_shape]; exact h.shape, ⟨by rw [canC_len]; exact h.states.1, fun x hx => h.states.2 x ((canC_perm p c).mem_iff.1 hx)⟩, by rw [canC_sent]; exact h.sent, by rw [canC_faulty]; exact h.faulty, ?_⟩
 rw [canC_correct, canC_value]; exact h.nums
structure SrI (p : Pro) (ex : Bool) (l : List Org) (f : ByteArray → Option Int) : Prop where
 at_ : ∀ i, i < l.length → f (keyB (nmC p ex (l.getD i org0).c)) = some (i : Int)
 of_ : ∀ k v, f k = some v → ∃ i, i < l.length ∧ v = (i : Int) ∧ keyB (nmC p ex (l.getD i org0).c) = k
theorem SrI.nil (p : Pro) (ex : Bool) : SrI p ex [] (fun _ => none) := ⟨fun i hi => by simp at hi, fun k v h => by cases h⟩
theorem getD_snoc {α : Type} {l : List α} {a d : α} {i : Nat} : (l ++ [a]).getD i d = if i < l.length then l.getD i d else if i = l.length then a else d := by
 rw [gD, gD]
 by_cases h : i < l.length
 ·rw [if_pos h, List.getElem?_append_left h]
 ·rw [if_neg h, List.getElem?_append_right (by omega)]
  by_cases h2 : i = l.length
  ·rw [if_pos h2, h2, Nat.sub_self]; rfl
  ·rw [if_neg h2, List.getElem?_eq_none (by simp; omega)]; rfl
theorem SrI.add {p : Pro} {ex : Bool} {l : List Org} {f : ByteArray → Option Int} (h : SrI p ex l f) {o : Org} (hn : f (keyB (nmC p ex o.c)) = none) : SrI p ex (l ++ [o]) (updF f (keyB (nmC p ex o.c)) (l.length : Int)) := by
 refine ⟨fun i hi => ?_, fun k v hv => ?_⟩
 ·rw [List.length_append, List.length_singleton] at hi
  rw [getD_snoc]
  by_cases h1 : i < l.length
  ·rw [if_pos h1]
   have := h.at_ i h1
   rw [updF_ne, this]
   intro e
   rw [e, hn] at this
   cases this
  ·rw [if_neg h1, if_pos (by omega), updF_same, show i = l.length by omega]
 ·by_cases e : k = keyB (nmC p ex o.c)
  ·subst e
   rw [updF_same] at hv
   cases hv
   exact ⟨l.length, by simp, rfl, by rw [getD_snoc, if_neg (by omega), if_pos rfl]⟩
  ·rw [updF_ne _ _ e] at hv
   obtain ⟨i, hi, h1, h2⟩ := h.of_ k v hv
   exact ⟨i, by simp; omega, h1, by rw [getD_snoc, if_pos hi]; exact h2⟩
theorem SrI.has {p : Pro} {ex : Bool} {l : List Org} {f : ByteArray → Option Int} (h : SrI p ex l f) (hs : ∀ o ∈ l, SmlC (nmC p ex o.c)) {c : Cfg} (hc : SmlC (nmC p ex c)) : (f (keyB (nmC p ex c))).isSome = true ↔ nmC p ex c ∈ l.map fun o => nmC p ex o.c := by
 constructor
 ·intro hk
  obtain ⟨v, hv⟩ := Option.isSome_iff_exists.1 hk
  obtain ⟨i, hi, _, h2⟩ := h.of_ _ _ hv
  have hm := getD_memA org0 hi
  exact List.mem_map.2 ⟨_, hm, keyB_inj (hs _ hm) hc h2⟩
 ·intro hk
  obtain ⟨o, ho, e⟩ := List.mem_map.1 hk
  obtain ⟨i, hi, rfl⟩ := mem_getDA org0 ho
  have h1 : f (keyB (nmC p ex (l.getD i org0).c)) = some (i : Int) := h.at_ i hi
  rw [e] at h1
  rw [h1]; rfl
def svL (l : List Cfg) (o : List Int) : List Cfg := o.map fun i => l.getD i.toNat cfg0
structure SpI (l : List Cfg) (o : List Int) : Prop where
 len : o.length = l.length
 rng : ∀ i ∈ o, 0 ≤ i ∧ i < l.length
 all : ∀ i : Nat, i < l.length → (i : Int) ∈ o
 asc : ascC (svL l o)
theorem SpI.nil : SpI [] [] := ⟨rfl, fun i hi => absurd hi List.not_mem_nil, fun i hi => absurd hi (Nat.not_lt_zero _), List.Pairwise.nil⟩
theorem svL_len (l : List Cfg) (o : List Int) : (svL l o).length = o.length := by simp [svL]
theorem svL_get (l : List Cfg) {o : List Int} {j : Nat} (h : j < o.length) : (svL l o).getD j cfg0 = l.getD (o.getD j 0).toNat cfg0 := by
 unfold svL
 rw [gD, List.getElem?_map, gL h]
 have e : o.getD j 0 = o[j] := by rw [gD, gL h]; rfl
 rw [e]; rfl
theorem svL_mem {l : List Cfg} {o : List Int} (h : SpI l o) (c : Cfg) : c ∈ svL l o ↔ c ∈ l := by
 unfold svL
 constructor
 ·intro hc
  obtain ⟨i, hi, rfl⟩ := List.mem_map.1 hc
  have := h.rng i hi
  have hlt : i.toNat < l.length := by omega
  rw [gD, gL hlt]
  exact List.getElem_mem hlt
 ·intro hc
  obtain ⟨i, hi, rfl⟩ := List.getElem_of_mem hc
  refine List.mem_map.2 ⟨(i : Int), h.all i hi, ?_⟩
  rw [tN, gD, gL hi]
  rfl
theorem ascC_lt {l : List Cfg} (h : ascC l) {i j : Nat} (hij : i < j) (hj : j < l.length) : cmpC (l.getD i cfg0) (l.getD j cfg0) < 0 := by
 have := List.pairwise_iff_getElem.1 h i j (by omega) hj hij
 rw [gD, gD, gL (by omega), gL hj]
 exact this
theorem cmpC_trans {a b c : Cfg} (h1 : cmpC a b < 0) (h2 : cmpC b c < 0) : cmpC a c < 0 := by
 have := cmpC_tri a b c
 unfold Tri at this
 omega
structure PlP (l : List Cfg) (o : List Int) (c : Cfg) (a : Nat) (is : Bool) : Prop where
 le : a ≤ o.length
 low : ∀ j, j < a → cmpC ((svL l o).getD j cfg0) c < 0
 yes : is = true → a < o.length ∧ cmpC ((svL l o).getD a cfg0) c = 0
 no : is = false → ∀ j, a ≤ j → j < o.length → 0 < cmpC ((svL l o).getD j cfg0) c
theorem PlP.mem {l : List Cfg} {o : List Int} {c : Cfg} {a : Nat} {is : Bool} (h : PlP l o c a is) (hs : SpI l o) : is = true ↔ c ∈ l := by
 constructor
 ·intro hi
  obtain ⟨h1, h2⟩ := h.yes hi
  have e := cmpC_same h2
  rw [← svL_mem hs, ← e]
  exact getD_memA cfg0 (by rw [svL_len]; exact h1)
 ·intro hc
  rw [← svL_mem hs] at hc
  obtain ⟨j, hj, rfl⟩ := mem_getDA cfg0 hc
  rw [svL_len] at hj
  cases is with
  |true => rfl
  |false =>
   exfalso
   by_cases hja : j < a
   ·have := h.low j hja
    rw [cmpC_self] at this; omega
   ·have := h.no rfl j (by omega) hj
    rw [cmpC_self] at this; omega
def insA (o : List Int) (a : Nat) (x : Int) : List Int := o.take a ++ (x :: o.drop a)
theorem insA_len {o : List Int} {a : Nat} (x : Int) (h : a ≤ o.length) : (insA o a x).length = o.length + 1 := by
 unfold insA
 rw [List.length_append, List.length_cons, List.length_take, List.length_drop]
 omega
theorem insA_get {o : List Int} {a : Nat} (x : Int) (h : a ≤ o.length) (j : Nat) : (insA o a x).getD j 0 = if j < a then o.getD j 0 else if j = a then x else o.getD (j - 1) 0 := by
 have ht : (o.take a).length = a := by rw [List.length_take]; omega
 unfold insA
 rw [gD]
 by_cases h1 : j < a
 ·rw [if_pos h1, List.getElem?_append_left (by omega), List.getElem?_take, if_pos h1, gD]
 ·rw [if_neg h1, List.getElem?_append_right (by omega), ht]
  by_cases h2 : j = a
  ·rw [if_pos h2, h2, Nat.sub_self]; rfl
  ·rw [if_neg h2, show j - a = (j - a - 1) + 1 by omega, List.getElem?_cons_succ, List.getElem?_drop, gD, show a + (j - a - 1) = j - 1 by omega]
theorem SpI.ins {l : List Cfg} {o : List Int} {c : Cfg} {a : Nat} (hs : SpI l o) (h : PlP l o c a false) : SpI (l ++ [c]) (insA o a l.length) := by
 have hle := h.le
 have ht : (o.take a).length = a := by rw [List.length_take]; omega
 have hmap : ∀ p : List Int, (∀ i ∈ p, i ∈ o) → p.map (fun i => (l ++ [c]).getD i.toNat cfg0) = p.map fun i => l.getD i.toNat cfg0 := fun p hp => List.map_congr_left fun i hi => by
  have := hs.rng i (hp i hi)
  rw [gD, List.getElem?_append_left (by omega), gD]
 have hsv : svL (l ++ [c]) (insA o a l.length) = (svL l o).take a ++ (c :: (svL l o).drop a) := by
  unfold svL insA
  rw [List.map_append, List.map_cons, hmap _ fun i hi => List.mem_of_mem_take hi, hmap _ fun i hi => List.mem_of_mem_drop hi, List.map_take, List.map_drop]
  congr 2
  simp
 refine ⟨by rw [insA_len _ hle, hs.len]; simp, fun i hi => ?_, fun i hi => ?_, ?_⟩
 ·unfold insA at hi
  rw [List.mem_append, List.mem_cons] at hi
  rw [List.length_append, List.length_singleton]
  rcases hi with hi | rfl | hi
  ·have := hs.rng i (List.mem_of_mem_take hi); omega
  ·omega
  ·have := hs.rng i (List.mem_of_mem_drop hi); omega
 ·rw [List.length_append, List.length_singleton] at hi
  unfold insA
  rw [List.mem_append, List.mem_cons]
  by_cases e : i = l.length
  ·exact .inr (.inl (by rw [e]))
  ·have := hs.all i (by omega)
   rw [← List.take_append_drop a o, List.mem_append] at this
   rcases this with h1 | h1
   ·exact .inl h1
   ·exact .inr (.inr h1)
 ·rw [hsv]
  have hlen := svL_len l o
  unfold ascC
  rw [List.pairwise_append, List.pairwise_cons]
  have hlow : ∀ x ∈ (svL l o).take a, cmpC x c < 0 := fun x hx => by
   obtain ⟨j, hj, rfl⟩ := List.getElem_of_mem hx
   rw [List.length_take] at hj
   have := h.low j (by omega)
   rw [gD, gL (by omega)] at this
   rw [List.getElem_take]; exact this
  have hhigh : ∀ x ∈ (svL l o).drop a, cmpC c x < 0 := fun x hx => by
   obtain ⟨j, hj, rfl⟩ := List.getElem_of_mem hx
   rw [List.length_drop] at hj
   have := h.no rfl (a + j) (by omega) (by omega)
   rw [gD, gL (by omega)] at this
   rw [List.getElem_drop, cmpC_neg]
   have h2 : 0 < cmpC (svL l o)[a + j] c := this
   omega
  refine ⟨List.Pairwise.sublist (List.take_sublist _ _) hs.asc, ⟨hhigh, List.Pairwise.sublist (List.drop_sublist _ _) hs.asc⟩, fun x hx y hy => ?_⟩
  rcases List.mem_cons.1 hy with rfl | hy
  ·exact hlow x hx
  ·exact cmpC_trans (hlow x hx) (hhigh y hy)
section
variable {p : Pro} {q : Prp} {s : Siz}
abbrev oAt (l : List Org) (i : Nat) : Org := l.getD i org0
def OrgAt (p : Pro) (q : Prp) (s : Siz) (l : List Org) (i : Nat) : Prop :=
 ((oAt l i).src = -1 ∧ isI p q s (oAt l i).c) ∨ ∃ j : Nat, j < i ∧ (oAt l i).src = (j : Int) ∧ enB p s (oAt l j).c (oAt l i).st false ∧ apB (oAt l j).c (rulX p (oAt l i).st) (oAt l i).st ∧ (oAt l i).c = apC (oAt l j).c (rulX p (oAt l i).st) (oAt l i).st
def OrgI (p : Pro) (q : Prp) (s : Siz) (l : List Org) : Prop := ∀ i, i < l.length → OrgAt p q s l i
theorem oAt_app {l m : List Org} {i : Nat} (h : i < l.length) : oAt (l ++ m) i = oAt l i := by
 unfold oAt
 rw [gD, gD, List.getElem?_append_left h]
theorem oAt_snoc (l : List Org) (o : Org) : oAt (l ++ [o]) l.length = o := by
 unfold oAt
 rw [getD_snoc, if_neg (by omega), if_pos rfl]
theorem OrgAt.app {l m : List Org} {i : Nat} (h : OrgAt p q s l i) (hi : i < l.length) : OrgAt p q s (l ++ m) i := by
 unfold OrgAt at *
 rw [oAt_app hi]
 rcases h with h | ⟨j, hj, h⟩
 ·exact .inl h
 ·refine .inr ⟨j, hj, ?_⟩
  rw [oAt_app (by omega)]
  exact h
theorem OrgI.nil : OrgI p q s [] := fun i hi => by simp at hi
theorem OrgI.ini {l : List Org} (h : OrgI p q s l) {c : Cfg} (hc : isI p q s c) (st : Stp) : OrgI p q s (l ++ [⟨c, -1, st⟩]) := by
 intro i hi
 rw [List.length_append, List.length_singleton] at hi
 by_cases e : i < l.length
 ·exact (h i e).app e
 ·have : i = l.length := by omega
  subst this
  unfold OrgAt
  rw [oAt_snoc]
  exact .inl ⟨rfl, hc⟩
theorem OrgI.stp {l : List Org} (h : OrgI p q s l) {j : Nat} (hj : j < l.length) {x : Stp} (he : enB p s (oAt l j).c x false) (ha : apB (oAt l j).c (rulX p x) x) : OrgI p q s (l ++ [⟨apC (oAt l j).c (rulX p x) x, (j : Int), x⟩]) := by
 intro i hi
 rw [List.length_append, List.length_singleton] at hi
 by_cases e : i < l.length
 ·exact (h i e).app e
 ·have : i = l.length := by omega
  subst this
  unfold OrgAt
  rw [oAt_snoc]
  refine .inr ⟨j, hj, rfl, ?_⟩
  rw [oAt_app hj]
  exact ⟨he, ha, rfl⟩
inductive Chain (l : List Org) : Nat → Nat → List Stp → Prop
 |root {i : Nat} (h : (oAt l i).src = -1) : Chain l i i []
 |step {i j r : Nat} {xs : List Stp} (hj : j < i) (h : (oAt l i).src = (j : Int)) (k : Chain l j r xs) : Chain l i r (xs ++ [(oAt l i).st])
theorem Chain.ex {l : List Org} (h : OrgI p q s l) : ∀ i, i < l.length → ∃ r xs, Chain l i r xs := by
 intro i
 induction i using Nat.strongRecOn with
 |_ i ih =>
  intro hi
  rcases h i hi with h1 | ⟨j, hj, h1, _⟩
  ·exact ⟨i, [], .root h1.1⟩
  ·obtain ⟨r, xs, hc⟩ := ih j hj (by omega)
   exact ⟨r, _, .step hj h1 hc⟩
theorem Chain.run {l : List Org} (h : OrgI p q s l) {i r : Nat} {xs : List Stp} (hc : Chain l i r xs) : i < l.length → isI p q s (oAt l r).c ∧ runOk p s (oAt l r).c xs ∧ (trs p (oAt l r).c xs).getD xs.length cfg0 = (oAt l i).c := by
 induction hc with
 |@root i hs =>
  intro hi
  rcases h i hi with h1 | ⟨j, _, h1, _⟩
  ·exact ⟨h1.2, trivial, rfl⟩
  ·omega
 |@step i j r xs hj hs _ ih =>
  intro hi
  obtain ⟨k1, k2, k3⟩ := ih (by omega)
  rcases h i hi with h1 | ⟨j', _, h1, h2, h3, h4⟩
  ·omega
  ·have : j' = j := by omega
   subst this
   refine ⟨k1, runOk_app.2 ⟨k2, ?_⟩, ?_⟩
   ·rw [k3]; exact ⟨h2, h3, trivial⟩
   ·rw [trs_end, k3, h4]; rfl
theorem Chain.wn {l : List Org} (h : OrgI p q s l) {i r : Nat} {xs : List Stp} (hc : Chain l i r xs) (hi : i < l.length) : Wn p q s xs.length (oAt l i).c := by
 obtain ⟨k1, k2, k3⟩ := hc.run h hi
 have := (Wn.ini k1).of_run k2
 rw [k3, Nat.zero_add] at this
 exact this
theorem Chain.app {l m : List Org} {i r : Nat} {xs : List Stp} (hc : Chain l i r xs) : i < l.length → Chain (l ++ m) i r xs := by
 induction hc with
 |@root i hs => exact fun hi => .root (by rw [oAt_app hi]; exact hs)
 |@step i j r xs hj hs _ ih =>
  intro hi
  have := Chain.step (l := l ++ m) hj (by rw [oAt_app hi]; exact hs) (ih (by omega))
  rw [oAt_app hi] at this
  exact this
theorem Chain.one {l : List Org} {i r r' : Nat} {xs xs' : List Stp} (h : Chain l i r xs) (k : Chain l i r' xs') : r = r' ∧ xs = xs' := by
 induction h generalizing r' xs' with
 |@root i hs =>
  cases k with
  |root _ => exact ⟨rfl, rfl⟩
  |step _ h1 _ => omega
 |@step i j r xs hj hs _ ih =>
  cases k with
  |root h1 => omega
  |@step _ j' _ xs2 _ h1 h2 =>
   have : j' = j := by omega
   subst this
   obtain ⟨e1, e2⟩ := ih h2
   exact ⟨e1, by rw [e2]⟩
end
end Go.Proofs.YtaeomngmcfdfpaaGreatDoor
