import Derived.Test.YtkanoljhphmdcaaGreatDoorGA
import Derived.Test.YtkanoljhphmdcaaGreatDoorA1
set_option linter.unusedVariables false
set_option linter.unusedSimpArgs false
namespace Go.Proofs.YtkanoljhphmdcaaGreatDoor
set_option maxRecDepth 100000
set_option maxHeartbeats 16000000
theorem ApplyFQ (p : Pro) (s : Siz) (c : Cfg) (x : Stp) (h : Rdy p s c) (he : enB p s c x false) (ha : apB c (rulX p x) x) : PSpec Tryz.prog 14 [.agg (encP p), .agg (encZ s), .agg (encC c), .agg (encX x)] (fun u => u = .tup [.agg (encC (apC c (rulX p x) x)), .int .i64 0]) := by
 have h1 := h.vcon
 refine PSpec.intro tt_ok mx_ok Tryz.func14 rfl (by decide) ?_; (conv => whnf)
 refine boxP rfl ?_
 conv => whnf
 refine boxP rfl ?_
 conv => whnf
 refine boxP rfl ?_
 conv => whnf
 refine boxP rfl ?_
 conv => whnf
 (refine oP (ValidConfigF p s c h.big h.wide) ?_; conv => whnf)
 refine fI ?_
 conv => whnf
 (refine oP (seeF p s c h.wide) ?_; conv => whnf)
 refine dC (enabledV p s c x false h) (fun _ => ?_) (fun _ => ?_) <;> (conv => whnf)
 case refine_2 => rename_i hn; exact absurd he hn
 have hA := applyV p s c x h he
 unfold rulX at ha ⊢
 generalize p.rules.getD x.rule.toNat rul0 = r at hA ha ⊢
 refine Spec.news 400 (lmC 1001 1002 1003 1004) (memC (apC c r x)) (.tup [cfgL (apC c r x), .int .i64 0]) hA (auto_) rfl (fun u M' hR => ?_) ?_
 ·rcases hR with ⟨_, hT⟩ | ⟨hn, _⟩
  ·exact outU u M' hT
  ·exact absurd ha hn
 conv => whnf
 exact ⟨rfl, rfl⟩
noncomputable def aplA (p : Pro) (s : Siz) (c : Cfg) (x : Stp) : AV :=
 if vconE p s c ≠ 0 then .tup [.agg (encC cfg0), .int .i64 (vconE p s c)]
 else if ¬ enB p s c x false then .tup [.agg (encC cfg0), .int .i64 9]
 else if ¬ apB c (rulX p x) x then .tup [.agg (encC cfg0), .int .i64 4]
 else .tup [.agg (encC (apC c (rulX p x) x)), .int .i64 0]
theorem ApplyG (p : Pro) (s : Siz) (c : Cfg) (x : Stp) (hp : okP p) (hc : okC c) : PSpec Tryz.prog 14 [.agg (encP p), .agg (encZ s), .agg (encC c), .agg (encX x)] (fun u => u = aplA p s c x) := by
 have he := aplA.eq_1 p s c x
 by_cases h1 : vconE p s c ≠ 0
 ·rw [if_pos h1] at he
  rw [he]
  refine PSpec.sub (R := fun u => u = .tup [.agg cfgN, .int .i64 (vconE p s c)]) ?_ (by rintro _ rfl; exact ⟨_, rfl, auto_, rfl⟩)
  refine PSpec.intro tt_ok mx_ok Tryz.func14 rfl (by decide) ?_; (conv => whnf)
  refine boxP rfl ?_
  conv => whnf
  refine boxP rfl ?_
  conv => whnf
  refine boxP rfl ?_
  conv => whnf
  refine boxP rfl ?_
  conv => whnf
  (refine oP (ValidConfigG p s c hp hc) ?_; conv => whnf)
  refine cmpT h1 ?_
  conv => whnf
  exact ⟨rfl, rfl⟩
 rw [if_neg h1] at he
 have h1 := Classical.not_not.1 h1
 have h := rdy_vc h1
 by_cases h2 : enB p s c x false
 rotate_left
 ·rw [if_pos h2] at he
  rw [he]
  exact ApplyF_s p s c x h.big h.wide h1 h2
 rw [if_neg (fun y => y h2)] at he
 by_cases h3 : apB c (rulX p x) x
 rotate_left
 ·rw [if_pos h3] at he
  rw [he]
  exact ApplyF_l p s c x h.big h.wide h1 h2 h3
 rw [if_neg (fun y => y h3)] at he
 rw [he]
 exact ApplyFQ p s c x h h2 h3
def cntN (p : Pro) (s : Siz) (c : Cfg) (m : Int) : Int := c.sent.getD m.toNat 0 + (if p.fault = 1 ∨ p.fault = 2 then c.faulty.getD m.toNat 0 else if p.fault = 3 then s.f else 0)
def unlB (p : Pro) (s : Siz) (c : Cfg) (i : Nat) : Prop := evalL ((thrL p.rules).getD i thr0).bound s ≤ ((thrL p.rules).getD i thr0).coef * cntN p s c ((thrL p.rules).getD i thr0).message
instance (p : Pro) (s : Siz) (c : Cfg) (i : Nat) : Decidable (unlB p s c i) := inferInstanceAs (Decidable (_ ≤ _))
def unlL (p : Pro) (s : Siz) (c : Cfg) : Nat → List Int
 |0 => []
 |k + 1 => if unlB p s c k then unlL p s c k ++ [(k : Int)] else unlL p s c k
theorem unlL_len (p : Pro) (s : Siz) (c : Cfg) : ∀ k, (unlL p s c k).length ≤ k
 |0 => Nat.le_refl _
 |k + 1 => by
  have := unlL_len p s c k
  rw [unlL]
  split
  ·rw [List.length_append]; simp only [List.length_cons, List.length_nil]; omega
  ·omega
theorem unlL_mem (p : Pro) (s : Siz) (c : Cfg) {a : Int} : ∀ {k : Nat}, a ∈ unlL p s c k ↔ ∃ i : Nat, i < k ∧ a = i ∧ unlB p s c i
 |0 => by simp [unlL]
 |k + 1 => by
  rw [unlL]
  have ih := unlL_mem p s c (a := a) (k := k)
  by_cases h : unlB p s c k
  ·rw [if_pos h, List.mem_append, ih, List.mem_singleton]
   constructor
   ·rintro (⟨i, h1, h2, h3⟩ | rfl)
    ·exact ⟨i, by omega, h2, h3⟩
    ·exact ⟨k, by omega, rfl, h⟩
   ·rintro ⟨i, h1, h2, h3⟩
    by_cases e : i = k
    ·subst e; exact .inr h2
    ·exact .inl ⟨i, by omega, h2, h3⟩
  ·rw [if_neg h, ih]
   constructor
   ·rintro ⟨i, h1, h2, h3⟩
    exact ⟨i, by omega, h2, h3⟩
   ·rintro ⟨i, h1, h2, h3⟩
    refine ⟨i, ?_, h2, h3⟩
    by_cases e : i = k
    ·subst e; exact absurd h3 h
    ·omega
theorem bumpL_ge : ∀ (ms l : List Int) (j : Nat), l.getD j 0 ≤ (bumpL l ms).getD j 0
 |[], l, j => by rw [bumpL]; exact Int.le_refl _
 |m :: ms, l, j => by
  rw [bumpL]
  refine Int.le_trans ?_ (bumpL_ge ms _ j)
  rw [gD, gD, List.getElem?_set]
  by_cases e : m.toNat = j
  ·subst e
   rw [if_pos rfl]
   by_cases hl : m.toNat < l.length
   ·rw [if_pos hl, Option.getD_some, gD]; omega
   ·rw [if_neg hl, List.getElem?_eq_none (by omega)]; exact Int.le_refl _
  ·rw [if_neg e]; exact Int.le_refl _
theorem cnt_mono (p : Pro) (s : Siz) (c : Cfg) (r : Rul) (x : Stp) (m : Int) : cntN p s c m ≤ cntN p s (apC c r x) m := by
 have a := bumpL_ge r.send c.sent m.toNat
 have b := bumpL_ge r.send c.faulty m.toNat
 unfold cntN apC
 dsimp only
 by_cases h : x.process < c.correct
 ·rw [if_pos h, if_pos h]
  omega
 ·rw [if_neg h, if_neg h]
  split <;> omega
theorem unl_mono {p : Pro} {s : Siz} {c : Cfg} (hv : validE p = 0) {r : Rul} {x : Stp} {i : Nat} (hi : i < (thrL p.rules).length) (h : unlB p s c i) : unlB p s (apC c r x) i := by
 have ht := thr_ok hv (mem_getD thr0 hi)
 have hm := cnt_mono p s c r x ((thrL p.rules).getD i thr0).message
 unfold unlB at h ⊢
 refine Int.le_trans h (Int.mul_le_mul_of_nonneg_left hm (by omega))
end Go.Proofs.YtkanoljhphmdcaaGreatDoor
