import Derived.Test.YtnjggjhkfncnlaaGreatDoorFP
import Derived.Test.YtnjggjhkfncnlaaGreatDoorMN
set_option linter.unusedVariables false
set_option linter.unusedSimpArgs false
namespace Go.Proofs.YtnjggjhkfncnlaaGreatDoor
set_option maxRecDepth 100000
set_option maxHeartbeats 16000000
theorem apC_wide {c : Cfg} {r : Rul} {x : Stp} (hw : wideB c = false) : wideB (apC c r x) = false:=by
 have hc:=wide_le hw
 have h1 : (apC c r x).sent.length = c.sent.length:=by unfold apC; dsimp only; split <;> simp [bumpL_len]
 have h2 : (apC c r x).faulty.length = c.faulty.length:=by unfold apC; dsimp only; split <;> simp [bumpL_len]
 have h3 : (apC c r x).states.length = c.states.length:=stN_len c r x
 have h4 : (apC c r x).shape.length = c.shape.length:=rfl
 unfold wideB
 simp only [Bool.or_eq_false_iff, decide_eq_false_iff_not]
 omega
theorem bump_in {l ms : List Int} (hl : inR l 1048577) (h : sndB l ms) : inR (bumpL l ms) 1048577:=by
 have key : ∀ k, k ≤ ms.length → ∀ j, 0 ≤ (bumpL l (ms.take k)).getD j 0 ∧ (bumpL l (ms.take k)).getD j 0 ≤ 1048576:=by
  intro k
  induction k with
  |zero=>intro _ j; exact inR_all hl j
  |succ k ih =>
   intro hk j
   have h1:=ih (by omega) j
   have h2:=ih (by omega) (ms.getD k 0).toNat
   have h3:=h k (by omega)
   rw [bumpL_up (by omega), getD_set] at h3 ⊢
   by_cases e : (ms.getD k 0).toNat = j ∧ (ms.getD k 0).toNat < (bumpL l (ms.take k)).length
   ·rw [if_pos ⟨rfl, e.2⟩] at h3
    rw [if_pos e]
    omega
   ·rw [if_neg e]; exact h1
 intro j hj
 have:=key ms.length (Nat.le_refl _) j
 rw [List.take_length] at this
 omega
theorem RulOk.pto {p : Pro} {r : Rul} (h : RulOk p r) (hk : r.kind = 2 ∨ r.kind = 5) : 0 ≤ r.pto ∧ r.pto < p.states.length:=by
 have:=h.kin
 unfold kindE at this
 rcases hk with hk | hk
 ·rw [if_neg (by omega), if_pos hk] at this
  exact indE_ok (orL_zero this (indE r.pto p.states.length) (by simp))
 ·rw [if_neg (by omega), if_neg (by omega), if_neg (by omega), if_neg (by omega)] at this
  exact indE_ok (orL_zero this (indE r.pto p.states.length) (by simp))
theorem Rdy.next {p : Pro} {s : Siz} {c : Cfg} {x : Stp} (h : Rdy p s c) (he : enB p s c x false) (ha : apB c (p.rules.getD x.rule.toNat rul0) x) : Rdy p s (apC c (p.rules.getD x.rule.toNat rul0) x):=by
 obtain ⟨hin, hen⟩:=he
 have hR:=valid_rule h.val (i:=x.rule.toNat) (by omega)
 generalize p.rules.getD x.rule.toNat rul0 = r at hen hR ha ⊢
 have hrd:=hR.read
 have hdst:=hR.dst
 have hv:=h.vc
 have hf:=validE_fault h.val
 have hC : ¬ (p.fault = 0 ∧ (s.t ≠ 0 ∨ s.f ≠ 0)):=h.adm.2.1
 have hlen:=hv.len
 have hcor:=hv.cor
 have h1 : (apC c r x).sent.length = c.sent.length:=by unfold apC; dsimp only; split <;> simp [bumpL_len]
 have h2 : (apC c r x).faulty.length = c.faulty.length:=by unfold apC; dsimp only; split <;> simp [bumpL_len]
 have h3 : (apC c r x).states.length = c.states.length:=stN_len c r x
 unfold apB at ha
 refine ⟨h.big, apC_wide h.wide, h.val, h.siz, h.sz, h.adm, ⟨by rw [h3]; exact hlen, fun j hj=>?_, hcor, by rw [h1]; exact hv.snl, ?_, by rw [h2]; exact hv.fal, ?_, ?_, ?_, hv.tre, hv.non⟩⟩
 ·have e : (apC c r x).states.getD j 0 = stG c r x j:=getD_map_range _ _ _ (by rw [h3] at hj; exact hj)
  rw [e]
  rw [h3] at hj
  have hs:=hv.sta j hj
  unfold stG
  by_cases e1 : (j : Int) = x.process
  ·rw [if_pos e1]; exact hdst
  ·rw [if_neg e1]
   by_cases e2 : (r.kind = 2 ∨ r.kind = 5) ∧ (j : Int) = x.partner
   ·rw [if_pos e2]; exact hR.pto e2.1
   ·rw [if_neg e2]
    by_cases e3 : r.kind = 3
    ·rw [if_pos e3]
     obtain ⟨g1, g2⟩:=hR.resp e3
     exact g2 _ (by omega)
    ·rw [if_neg e3]; exact hs
 ·by_cases hc : x.process < c.correct
  ·rw [if_pos hc] at ha
   rw [apC_t hc]
   exact bump_in hv.sen ha
  ·rw [apC_f hc]; exact hv.sen
 ·by_cases hc : x.process < c.correct
  ·rw [apC_t hc]; exact hv.fau
  ·rw [if_neg hc] at ha
   rw [apC_f hc]
   have hw : whL p = 1048576:=by
    unfold whL
    rw [if_pos]
    unfold modN at hlen
    by_cases e3 : p.fault = 3
    ·rw [if_pos e3] at hlen; omega
    ·rw [if_neg e3] at hlen; omega
   have:=hv.fau
   rw [hw] at this ⊢
   exact bump_in this ha
 ·show 0 ≤ (if r.write = -1 then c.value else r.write)
  have:=hv.va0
  split <;> omega
 ·show (if r.write = -1 then c.value else r.write) < 1 ∨ (if r.write = -1 then c.value else r.write) < p.values.length
  have:=hv.va1
  split <;> omega
theorem Rdy.vcon {p : Pro} {s : Siz} {c : Cfg} (h : Rdy p s c) : vconE p s c = 0:=by
 have hs:=h.sz
 have hz : sizeE p s = 0:=by
  unfold sizeE
  rw [if_neg (by rw [h.val]; omega), if_neg (fun hn=>hn h.adm), if_neg (by omega)]
 unfold vconE
 rw [if_neg (by omega)]
 unfold vcE
 rw [if_pos h.vc]
def rulX (p : Pro) (x : Stp) : Rul:=p.rules.getD x.rule.toNat rul0
noncomputable def rp (p : Pro) (s : Siz) : List Cfg → Cfg → List Stp → AV
 |acc, _, []=>rpA acc 0
 |acc, cur, x :: xs=>if enB p s cur x false then (if apB cur (rulX p x) x then rp p s (acc ++ [apC cur (rulX p x) x]) (apC cur (rulX p x) x) xs else rpA [] 4) else rpA [] 9
theorem dropX {l : List Stp} {k : Nat} (h : k < l.length) : l.drop k = l.getD k stp0 :: l.drop (k + 1):=by
 rw [List.drop_eq_getElem_cons h, gD, gL h]
 rfl
theorem rp_form (p : Pro) (s : Siz) : ∀ (xs : List Stp) (acc : List Cfg) (cur : Cfg), (∀ d ∈ acc, wideB d = false) → wideB cur = false → ∃ l e, rp p s acc cur xs = rpA l e ∧ l.length ≤ acc.length + xs.length ∧ ∀ d ∈ l, wideB d = false
 |[], acc, cur, h1, _=>⟨acc, 0, rfl, by simp, h1⟩
 |x :: xs, acc, cur, h1, h2=>by
  rw [rp]
  by_cases he : enB p s cur x false
  ·rw [if_pos he]
   by_cases ha : apB cur (rulX p x) x
   ·rw [if_pos ha]
    have hw : wideB (apC cur (rulX p x) x) = false:=apC_wide h2
    obtain ⟨l, e, g1, g2, g3⟩:=rp_form p s xs (acc ++ [apC cur (rulX p x) x]) (apC cur (rulX p x) x) (fun d hd=>by
     rcases List.mem_append.1 hd with hd | hd
     ·exact h1 d hd
     ·rw [List.mem_singleton] at hd; rw [hd]; exact hw) hw
    refine ⟨l, e, g1, ?_, g3⟩
    rw [List.length_append, List.length_singleton] at g2
    rw [List.length_cons]
    omega
   ·rw [if_neg ha]; exact ⟨[], 4, rfl, by simp, by simp⟩
  ·rw [if_neg he]; exact ⟨[], 9, rfl, by simp, by simp⟩
theorem last_snoc (acc : List Cfg) (d : Cfg) : (acc ++ [d]).getD acc.length cfg0 = d:=by
 rw [gD, List.getElem?_append_right (Nat.le_refl _), Nat.sub_self]
 rfl
end Go.Proofs.YtnjggjhkfncnlaaGreatDoor
