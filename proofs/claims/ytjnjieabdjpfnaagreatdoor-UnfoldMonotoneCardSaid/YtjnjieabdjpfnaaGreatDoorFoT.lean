import Derived.Test.YtjnjieabdjpfnaaGreatDoorMN
set_option linter.unusedVariables false
set_option linter.unusedSimpArgs false
namespace Go.Proofs.YtjnjieabdjpfnaaGreatDoor
set_option maxRecDepth 100000
set_option maxHeartbeats 16000000
def cov0 (p : Pro) : Prop := p.topology = 1 ∧ p.fault = 0 ∧ p.messages.length = 0 ∧ p.resilience.length = 0
def covB (p : Pro) : Prop := cov0 p ∧ ∀ j, j < p.rules.length → (p.rules.getD j rul0).forall_.length = 0
theorem validE_st {p : Pro} (h : validE p = 0) : 0 < p.states.length := by
 unfold validE at h
 by_cases h1 : ¬ validN p.name
 ·rw [if_pos h1] at h; omega
 rw [if_neg h1] at h
 by_cases h2 : p.topology < 1 ∨ 4 < p.topology ∨ p.fault < 0 ∨ 3 < p.fault
 ·rw [if_pos h2] at h; omega
 rw [if_neg h2] at h
 by_cases h3 : p.states.length = 0
 ·rw [if_pos h3] at h; omega
 ·omega
def moreC (c : Cfg) (y : Int) : Cfg := { c with states := c.states ++ [y], correct := c.correct + 1 }
theorem getD_left {l : List Int} {y : Int} {j : Nat} (h : j < l.length) : (l ++ [y]).getD j 0 = l.getD j 0 := by
 rw [gD, gD, List.getElem?_append_left h]
theorem getD_last {l : List Int} {y : Int} : (l ++ [y]).getD l.length 0 = y := by
 rw [gD, List.getElem?_append_right (Nat.le_refl _), Nat.sub_self]; rfl
theorem more_ok {p : Pro} {s : Siz} {c : Cfg} {y : Int} (h : Rdy p s c) (hc : covB p) (hn : s.n < 8) (hy : 0 ≤ y ∧ y < p.states.length) (hw : wideB (moreC c y) = false) : vconE p ⟨s.n + 1, 0, 0⟩ (moreC c y) = 0 := by
 obtain ⟨⟨c1, c2, c3, c4⟩, c5⟩ := hc
 have hs := h.sz
 have hv := h.vc
 have hC : ¬ (p.fault = 0 ∧ (s.t ≠ 0 ∨ s.f ≠ 0)) := h.adm.2.1
 have hlen := hv.len
 have hcor := hv.cor
 have hadm : admB p ⟨s.n + 1, 0, 0⟩ := by
  refine ⟨⟨by dsimp only; omega, by dsimp only; omega, by dsimp only; omega⟩, fun hh => by rcases hh.2 with e | e <;> exact e rfl, fun hh => by omega, fun j hj => by omega⟩
 have hz : sizeE p ⟨s.n + 1, 0, 0⟩ = 0 := by
  unfold sizeE
  rw [if_neg (by rw [h.val]; omega), if_neg (fun hn => hn hadm), if_neg (by dsimp only; omega)]
 unfold vconE
 rw [if_neg (by omega)]
 unfold vcE
 rw [if_pos]
 unfold modN at hlen
 rw [if_neg (by omega)] at hlen
 refine ⟨?_, fun j hj => ?_, ?_, hv.snl, hv.sen, hv.fal, hv.fau, hv.va0, hv.va1, fun e => by omega, fun e => hv.non (by omega)⟩
 ·unfold modN moreC
  rw [if_neg (by omega)]
  simp only [List.length_append, List.length_singleton]
  omega
 ·have hj2 : j < c.states.length + 1 := by simpa [moreC] using hj
  show 0 ≤ (c.states ++ [y]).getD j 0 ∧ (c.states ++ [y]).getD j 0 < p.states.length
  by_cases e : j < c.states.length
  ·rw [getD_left e]; exact hv.sta j e
  ·obtain rfl : j = c.states.length := by omega
   rw [getD_last]; exact hy
 ·show c.correct + 1 = s.n + 1 - 0
  omega
theorem more_en {p : Pro} {s : Siz} {c : Cfg} {y : Int} {x : Stp} (h : Rdy p s c) (hc : covB p) (he : enB p s c x false) : enB p ⟨s.n + 1, 0, 0⟩ (moreC c y) x false := by
 obtain ⟨⟨c1, c2, c3, c4⟩, c5⟩ := hc
 obtain ⟨hin, h1, h2, h3⟩ := he
 have hR := valid_rule h.val (i := x.rule.toNat) (by omega)
 have hF := c5 x.rule.toNat (by omega)
 have hl : (moreC c y).states.length = c.states.length + 1 := by simp [moreC]
 refine ⟨by rw [hl]; omega, ?_⟩
 generalize p.rules.getD x.rule.toNat rul0 = r at h1 h2 h3 hR hF ⊢
 have hfit := hR.fit
 unfold fitB at hfit
 refine ⟨?_, h2, ?_⟩
 ·show (c.states ++ [y]).getD x.process.toNat 0 = r.src
  rw [getD_left (by omega)]; exact h1
 ·unfold kinB at h3 ⊢
  by_cases k25 : r.kind = 2 ∨ r.kind = 5
  ·rw [if_pos k25] at h3 ⊢
   obtain ⟨⟨g1, g2, g3, g4⟩, g5⟩ := h3
   refine ⟨⟨g1, by rw [hl]; omega, g3, ?_⟩, .inl (by omega)⟩
   show (c.states ++ [y]).getD x.partner.toNat 0 = r.pfrom
   rw [getD_left (by omega)]; exact g4
  ·rw [if_neg k25] at h3 ⊢
   refine ⟨h3.1, ?_⟩
   by_cases k1 : r.kind = 1
   ·have h4 := h3.2
    rw [if_pos k1] at h4 ⊢
    obtain ⟨_, g2, g3⟩ := h4
    have hg := guardsE_ok (hR.guards k1)
    refine ⟨fun j hj => ?_, ?_, .inl hF⟩
    ·have := hg j hj; omega
    ·rcases g2 with g2 | ⟨j, g4, g5, g6⟩
     ·exact .inl g2
     ·refine .inr ⟨j, by rw [hl]; omega, g5, ?_⟩
      show (c.states ++ [y]).getD j 0 ∈ r.some_
      rw [getD_left g4]; exact g6
   ·rw [if_neg k1, if_pos (by omega)]
    trivial
end Go.Proofs.YtjnjieabdjpfnaaGreatDoor
