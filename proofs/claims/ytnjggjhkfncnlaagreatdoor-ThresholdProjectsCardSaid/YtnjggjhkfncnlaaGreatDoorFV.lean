import Derived.Test.YtnjggjhkfncnlaaGreatDoorMN
set_option linter.unusedVariables false
set_option linter.unusedSimpArgs false
namespace Go.Proofs.YtnjggjhkfncnlaaGreatDoor
set_option maxRecDepth 100000
set_option maxHeartbeats 16000000
def stL (p : Pro) (q : Prp) : List Int:=if 0 < q.start.length then q.start else p.initial
def chF (p : Pro) (q : Prp) (s : Siz) (i : Nat) : List Int:=if i = 0 ∧ 0 < p.leader.length then p.leader else if (i : Int) < s.n - s.f then stL p q else p.initial
theorem startStatesR (p : Pro) (q : Prp) (hp : ¬ bigP p) (hq : ¬ bigQ q) : PSpec Tryz.prog 160 [.agg (encP p), .agg (encQ q)] (fun u=>u = .sl 0 encI (stL p q)):=by
 have hle:=bigP_le hp
 have hlq:=bigQ_le hq
 have he:=stL.eq_1 p q
 refine PSpec.intro tt_ok mx_ok Tryz.func160 rfl (by decide) ?_; (conv=>whnf)
 refine boxP rfl ?_
 conv=>whnf
 refine boxP rfl ?_
 conv=>whnf
 refine cmpI ?_ ?_ <;> (intro h1; conv=>whnf)
 ·rw [if_pos (by omega)] at he
  (refine oP (copyIntsR q.start (by omega)) ?_; conv=>whnf)
  exact ⟨he ▸ rfl, rfl⟩
 ·rw [if_neg (by omega)] at he
  (refine oP (copyIntsR p.initial (by omega)) ?_; conv=>whnf)
  exact ⟨he ▸ rfl, rfl⟩
theorem choicesR (p : Pro) (q : Prp) (s : Siz) (i : Nat) (hp : ¬ bigP p) (hq : ¬ bigQ q) (hs : (1 ≤ s.n ∧ s.n ≤ 8) ∧ (0 ≤ s.f ∧ s.f ≤ s.n)) : PSpec Tryz.prog 156 [.agg (encP p), .agg (encQ q), .agg (encZ s), .int .i64 (i : Int)] (fun u=>u = .sl 0 encI (chF p q s i)):=by
 have he:=chF.eq_1 p q s i
 refine PSpec.intro tt_ok mx_ok Tryz.func156 rfl (by decide) ?_; (conv=>whnf)
 refine boxP rfl ?_
 conv=>whnf
 refine boxP rfl ?_
 conv=>whnf
 refine boxP rfl ?_
 conv=>whnf
 by_cases h1 : i = 0 ∧ 0 < p.leader.length
 ·rw [if_pos h1] at he
  repeat' ((first|refine nI ?_|refine aI ?_|refine tI ?_|refine fI ?_|fail);conv=>whnf)
  exact ⟨he ▸ rfl, rfl⟩
 rw [if_neg h1] at he
 by_cases h2 : (i : Int) < s.n - s.f
 ·rw [if_pos h2] at he
  by_cases h3 : i = 0
  all_goals
   repeat' ((first|refine nI ?_|refine aI ?_|refine tI ?_|refine fI ?_|fail);conv=>whnf)
   (refine oP (startStatesR p q hp hq) ?_; conv=>whnf)
   exact ⟨he ▸ rfl, rfl⟩
 ·rw [if_neg h2] at he
  by_cases h3 : i = 0
  all_goals
   repeat' ((first|refine nI ?_|refine aI ?_|refine tI ?_|refine fI ?_|fail);conv=>whnf)
   exact ⟨he ▸ rfl, rfl⟩
noncomputable def sizQ (p : Pro) (q : Prp) (s : Siz) : Int:=if propE p q ≠ 0 then propE p q else sizeE p s
theorem sizedPropertyR (p : Pro) (q : Prp) (s : Siz) (hp : ¬ bigP p) (hq : ¬ bigQ q) : PSpec Tryz.prog 78 [.agg (encP p), .agg (encQ q), .agg (encZ s)] (fun u=>u = .int .i64 (sizQ p q s)):=by
 have he:=sizQ.eq_1 p q s
 refine PSpec.intro tt_ok mx_ok Tryz.func78 rfl (by decide) ?_; (conv=>whnf)
 refine boxP rfl ?_
 conv=>whnf
 refine boxP rfl ?_
 conv=>whnf
 refine boxP rfl ?_
 conv=>whnf
 (refine oP (propertyR p q (okP_of hp) (okQ_of hq)) ?_; conv=>whnf)
 refine cmpI ?_ ?_ <;> (intro h1; conv=>whnf)
 ·rw [if_pos h1] at he; exact ⟨he ▸ rfl, rfl⟩
 ·rw [if_neg h1] at he
  (refine oP (sizedR p s hp) ?_; conv=>whnf)
  exact ⟨he ▸ rfl, rfl⟩
def isI (p : Pro) (q : Prp) (s : Siz) (c : Cfg) : Prop:=VC p s c ∧ c.value = 0 ∧ (∀ j, j < c.sent.length → c.sent.getD j 0 = 0 ∧ c.faulty.getD j 0 = 0) ∧ ∀ i, i < c.states.length → c.states.getD i 0 ∈ chF p q s i
noncomputable instance decIsI (p : Pro) (q : Prp) (s : Siz) (c : Cfg) : Decidable (isI p q s c):=Classical.propDecidable _
theorem chF_le {p : Pro} {q : Prp} (hp : ¬ bigP p) (hq : ¬ bigQ q) (s : Siz) (k : Nat) : (chF p q s k).length ≤ 1000:=by
 have hle:=bigP_le hp
 have hlq:=bigQ_le hq
 unfold chF stL
 (repeat' split) <;> omega
theorem isInitialR (p : Pro) (q : Prp) (s : Siz) (c : Cfg) (hp : ¬ bigP p) (hq : ¬ bigQ q) (hw : wideB c = false) (hz : sizeE p s = 0) : PSpec Tryz.prog 79 [.agg (encP p), .agg (encQ q), .agg (encZ s), .agg (encC c)] (fun u=>u = .bool (decide (isI p q s c))):=by
 have hle:=bigP_le hp
 have hc:=wide_le hw
 have h2:=sizeE_ok hz
 refine PSpec.intro tt_ok mx_ok Tryz.func79 rfl (by decide) ?_; (conv=>whnf)
 refine boxP rfl ?_
 conv=>whnf
 refine boxP rfl ?_
 conv=>whnf
 refine boxP rfl ?_
 conv=>whnf
 refine boxP rfl ?_
 conv=>whnf
 refine dC (validConfigR p s c hp hw (by omega)) (fun _=>?_) (fun _=>?_) <;> (conv=>whnf)
 case refine_2 =>
  rename_i h3
  exact ⟨dec_f (fun h=>h3 h.1), rfl⟩
 rename_i h3
 have hsf:=h3.snl.trans h3.fal.symm
 refine cmpI ?_ ?_ <;> (intro h4; conv=>whnf)
 ·exact ⟨dec_f (fun h=>h4 h.2.1), rfl⟩
 refine WPc.loopF tt_ok mx_ok (fun k : Nat=>k ≤ c.sent.length ∧ ∀ j, j < k → c.sent.getD j 0 = 0 ∧ c.faulty.getD j 0 = 0) (fun k=>[(9, .int .i64 (k : Int))]) (fun _=>[]) (fun k=>c.sent.length - k) 0 ⟨by omega, fun j hj=>by omega⟩ ?_; conv=>whnf
 refine ⟨sI, ?_⟩
 rintro k ⟨hk, ha⟩
 conv=>whnf
 refine cmpI ?_ ?_ <;> (intro g1; conv=>whnf)
 ·refine nI ?_
  conv=>whnf
  rw [tN]
  refine cmpI ?_ ?_ <;> (intro g2; conv=>whnf)
  ·exact ⟨dec_f (fun h=>g2 (h.2.2.1 k (by omega)).1), rfl⟩
  refine nI ?_
  conv=>whnf
  rw [tN]
  refine cmpI ?_ ?_ <;> (intro g3; conv=>whnf)
  ·exact ⟨dec_f (fun h=>g3 (h.2.2.1 k (by omega)).2), rfl⟩
  repeat' ((first|refine nI ?_|refine aI ?_|refine tI ?_|refine fI ?_|fail);conv=>whnf)
  refine ⟨k + 1, sI, ⟨by omega, fun j hj=>?_⟩, by dsimp only; omega⟩
  by_cases e : j = k
  ·subst e; exact ⟨by omega, by omega⟩
  ·exact ha j (by omega)
 have h5 : ∀ j, j < c.sent.length → c.sent.getD j 0 = 0 ∧ c.faulty.getD j 0 = 0:=fun j hj=>ha j (by omega)
 clear ha hk g1
 refine WPc.loopF tt_ok mx_ok (fun i : Nat=>i ≤ c.states.length ∧ ∀ j, j < i → c.states.getD j 0 ∈ chF p q s j) (fun i=>[(10, .int .i64 (i : Int))]) (fun _=>[]) (fun i=>c.states.length - i) 0 ⟨by omega, fun j hj=>by omega⟩ ?_; conv=>whnf
 refine ⟨sI, ?_⟩
 rintro i ⟨hi, ha⟩
 conv=>whnf
 refine cmpI ?_ ?_ <;> (intro g1; conv=>whnf)
 ·have hcl:=chF_le hp hq s i
  have hnx : c.states.getD i 0 ∈ chF p q s i → ∀ j, j < i + 1 → c.states.getD j 0 ∈ chF p q s j:=fun h j hj=>by
   by_cases e : j = i
   ·subst e; exact h
   ·exact ha j (by omega)
  have hno : c.states.getD i 0 ∉ chF p q s i → ¬ isI p q s c:=fun h hh=>h (hh.2.2.2 i (by omega))
  refine dI ?_
  conv=>whnf
  (refine oC (choicesR p q s i hp hq (by omega)) ?_; conv=>whnf)
  refine nI ?_
  conv=>whnf
  rw [tN]
  refine dD (hasR (chF p q s i) _ (by omega)) (fun _=>?_) (fun _=>?_) <;> (conv=>whnf)
  ·rename_i hm
   repeat' ((first|refine nI ?_|refine aI ?_|refine tI ?_|refine fI ?_|fail);conv=>whnf)
   exact ⟨i + 1, sI, ⟨by omega, hnx hm⟩, by dsimp only; omega⟩
  ·rename_i hm
   exact ⟨dec_f (hno hm), rfl⟩
 ·exact ⟨dec_t ⟨h3, by omega, h5, fun j hj=>ha j (by omega)⟩, rfl⟩
theorem sizQ_ok {p : Pro} {q : Prp} {s : Siz} (h : sizQ p q s = 0) : propE p q = 0 ∧ sizeE p s = 0:=by
 unfold sizQ at h
 by_cases h1 : propE p q ≠ 0
 ·rw [if_pos h1] at h; omega
 ·rw [if_neg h1] at h; exact ⟨by omega, h⟩
end Go.Proofs.YtnjggjhkfncnlaaGreatDoor
