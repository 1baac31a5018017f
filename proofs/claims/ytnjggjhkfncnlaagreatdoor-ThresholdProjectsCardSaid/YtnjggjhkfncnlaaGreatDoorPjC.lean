import Derived.Test.YtnjggjhkfncnlaaGreatDoorFV
import Derived.Test.YtnjggjhkfncnlaaGreatDoorV1
import Derived.Test.YtnjggjhkfncnlaaGreatDoorFZ2
import Derived.Test.YtnjggjhkfncnlaaGreatDoorHA
set_option linter.unusedVariables false
set_option linter.unusedSimpArgs false
namespace Go.Proofs.YtnjggjhkfncnlaaGreatDoor
set_option maxRecDepth 100000
set_option maxHeartbeats 16000000
theorem nzClosF (n : Int) : PSpec Tryz.prog 66 [.int .i64 n] (fun u=>u = .bool (decide (n ≠ 0))):=by
 refine PSpec.intro tt_ok mx_ok Tryz.func66 rfl (by decide) ?_; (conv=>whnf)
 refine cmpI ?_ ?_ <;> (intro h; conv=>whnf)
 ·exact ⟨dec_t h, rfl⟩
 ·exact ⟨dec_f h, rfl⟩
def nzB (l : List Int) : Prop:=∃ j, j < l.length ∧ l.getD j 0 ≠ 0
noncomputable instance (l : List Int) : Decidable (nzB l):=Classical.propDecidable _
theorem nzIdxF (l : List Int) (hl : l.length ≤ 1000) : PSpec Tryz.prog 138 [.sl 0 encI l, .fn 66 []] (fun u=>∃ n : Int, u = .int .i64 n ∧ (0 ≤ n ↔ nzB l)):=by
 refine PSpec.intro tt_ok mx_ok Tryz.func138 rfl (by decide) ?_; (conv=>whnf)
 refine WPc.loopF tt_ok mx_ok (fun k : Nat=>k ≤ l.length ∧ ∀ j, j < k → ¬ l.getD j 0 ≠ 0) (fun k=>[(8, .int .i64 (k : Int))]) (fun _=>[]) (fun k=>l.length - k) 0 ⟨by omega, fun j hj=>by omega⟩ ?_; conv=>whnf
 refine ⟨sI, ?_⟩
 rintro k ⟨hk, ha⟩
 conv=>whnf
 refine cmpI ?_ ?_ <;> (intro h1; conv=>whnf)
 ·refine nI ?_
  rw [tN]
  conv=>whnf
  refine dC (nzClosF (l.getD k 0)) (fun _=>?_) (fun _=>?_) <;> (conv=>whnf)
  ·rename_i h2
   exact ⟨⟨k, rfl, fun _=>⟨k, by omega, h2⟩, fun _=>by omega⟩, rfl⟩
  ·rename_i h2
   repeat' ((first|refine nI ?_|refine aI ?_|refine arU trivial (by omega) ?_|refine arB trivial (by omega) ?_|refine dI ?_|refine dR ?_|refine dP ?_|refine boxP rfl ?_|refine pI _ rfl ?_|refine rowSetI _ rfl ?_|refine tI ?_|refine fI ?_|refine cmpI (fun _=>?_) (fun _=>?_)) <;> conv=>whnf)
   refine ⟨k + 1, sI, ⟨by omega, fun j hj=>?_⟩, by dsimp only; omega⟩
   by_cases e : j = k
   ·subst e; exact h2
   ·exact ha j (by omega)
 ·exact ⟨⟨-1, rfl, fun h=>by omega, fun ⟨j, h1, h2⟩=>absurd h2 (ha j (by omega))⟩, rfl⟩
theorem nzHasF (l : List Int) (hl : l.length ≤ 1000) : PSpec Tryz.prog 67 [.sl 0 encI l, .fn 66 []] (fun u=>u = .bool (decide (nzB l))):=by
 refine PSpec.intro tt_ok mx_ok Tryz.func67 rfl (by decide) ?_; (conv=>whnf)
 refine Spec.of_pure (n:=5) (nzIdxF l hl) rfl ?_
 rintro _ ⟨n, rfl, hn⟩
 conv=>whnf
 refine cmpI ?_ ?_ <;> (intro h; conv=>whnf)
 ·exact ⟨dec_t (hn.1 h), rfl⟩
 ·exact ⟨dec_f (fun hh=>h (hn.2 hh)), rfl⟩
theorem initialT (p : Pro) (q : Prp) (s : Siz) (c : Cfg) (hp : propE p q = 0) (ht : thrB p) (h : Rdy p s c) : PSpec Tryz.prog 18 [.pd (famC p q), .agg (encC c)] (fun u=>u = .bool (decide (isI p q s c))):=by
 have hw:=wide_le h.wide
 have hcor:=h.vc.cor
 have hsn:=h.vc.snl
 have hfn:=h.vc.fal
 have hld:=(vld_of h.val).shp
 have hch : ∀ i : Nat, chF p q s i = if (i : Int) < c.correct then stL' p q else p.initial:=fun i=>by
  unfold chF
  rw [if_neg (by have:=ht.1; omega), hcor]
  rfl
 have hle:=bigP_le h.big
 have hsl : (stL' p q).length ≤ 1000:=by
  have hn:=(vld_of h.val).len
  unfold stL'
  split
  ·have:=set_len (vlq_of hp).start; omega
  ·omega
 refine PSpec.intro tt_ok mx_ok Tryz.func18 rfl (by decide) ?_; (conv=>whnf)
 refine boxP rfl ?_
 conv=>whnf
 refine cmpI ?_ ?_ <;> (intro h1; conv=>whnf)
 ·exact ⟨dec_f (fun hh=>h1 hh.2.1), rfl⟩
 have hv : c.value = 0:=Classical.not_not.1 h1
 refine dC (nzHasF c.sent (by omega)) (fun _=>?_) (fun _=>?_) <;> (conv=>whnf)
 ·rename_i h2
  exact ⟨dec_f (fun hh=>by obtain ⟨j, hj, e⟩:=h2; exact e (hh.2.2.1 j hj).1), rfl⟩
 rename_i h2
 refine dC (nzHasF c.faulty (by omega)) (fun _=>?_) (fun _=>?_) <;> (conv=>whnf)
 ·rename_i h3
  exact ⟨dec_f (fun hh=>by obtain ⟨j, hj, e⟩:=h3; exact e (hh.2.2.1 j (by omega)).2), rfl⟩
 rename_i h3
 have hz : ∀ j, j < c.sent.length → c.sent.getD j 0 = 0 ∧ c.faulty.getD j 0 = 0:=fun j hj =>
  ⟨Classical.byContradiction fun e=>h2 ⟨j, hj, e⟩, Classical.byContradiction fun e=>h3 ⟨j, by omega, e⟩⟩
 refine WPc.loopF tt_ok mx_ok (fun k : Nat=>k ≤ c.states.length ∧ ∀ i, i < k → c.states.getD i 0 ∈ chF p q s i) (fun k=>[(27, .int .i64 (k : Int))]) (fun _=>[]) (fun k=>c.states.length - k) 0 ⟨Nat.zero_le _, fun i hi=>absurd hi (Nat.not_lt_zero _)⟩ ?_; conv=>whnf
 refine ⟨sI, ?_⟩
 rintro k ⟨hk, ha⟩
 conv=>whnf
 refine cmpI ?_ ?_ <;> (intro g1; conv=>whnf)
 rotate_left
 ·obtain rfl : k = c.states.length:=by omega
  exact ⟨dec_t ⟨h.vc, hv, hz, ha⟩, rfl⟩
 have hck:=hch k
 refine nI ?_
 rw [tN]
 conv=>whnf
 refine cmpI ?_ ?_ <;> (intro g2; conv=>whnf)
 ·rw [if_neg (by omega)] at hck
  refine dC (iContainsF p.initial (c.states.getD k 0) (by omega)) (fun _=>?_) (fun _=>?_) <;> (conv=>whnf)
  ·rename_i g3
   repeat' ((first|refine nI ?_|refine aI ?_|refine arU trivial (by omega) ?_|refine arB trivial (by omega) ?_|refine dI ?_|refine dR ?_|refine dP ?_|refine boxP rfl ?_|refine pI _ rfl ?_|refine rowSetI _ rfl ?_|refine tI ?_|refine fI ?_|refine cmpI (fun _=>?_) (fun _=>?_)) <;> conv=>whnf)
   refine ⟨k + 1, sI, ⟨by omega, fun i hi=>?_⟩, by dsimp only; omega⟩
   by_cases e : i = k
   ·subst e; rw [hck]; exact g3
   ·exact ha i (by omega)
  ·rename_i g3
   exact ⟨dec_f (fun hh=>g3 (by rw [← hck]; exact hh.2.2.2 k (by omega))), rfl⟩
 ·rw [if_pos (by omega)] at hck
  refine dC (iContainsF (stL' p q) (c.states.getD k 0) (by omega)) (fun _=>?_) (fun _=>?_) <;> (conv=>whnf)
  ·rename_i g3
   repeat' ((first|refine nI ?_|refine aI ?_|refine arU trivial (by omega) ?_|refine arB trivial (by omega) ?_|refine dI ?_|refine dR ?_|refine dP ?_|refine boxP rfl ?_|refine pI _ rfl ?_|refine rowSetI _ rfl ?_|refine tI ?_|refine fI ?_|refine cmpI (fun _=>?_) (fun _=>?_)) <;> conv=>whnf)
   refine ⟨k + 1, sI, ⟨by omega, fun i hi=>?_⟩, by dsimp only; omega⟩
   by_cases e : i = k
   ·subst e; rw [hck]; exact g3
   ·exact ha i (by omega)
  ·rename_i g3
   exact ⟨dec_f (fun hh=>g3 (by rw [← hck]; exact hh.2.2.2 k (by omega))), rfl⟩
theorem lsz_ok {p : Pro} {q : Prp} {s : Siz} (h : lszE p q s = 0) : propE p q = 0 ∧ thrB p ∧ sizeE p s = 0 ∧ sizQ p q s = 0:=by
 have hc:=lsz_chk h
 have hp:=chk_prop hc
 have ht:=(chk_cls hc).1
 unfold lszE at h
 rw [if_neg (fun y=>y hp)] at h
 have hz : szdE p s = 0:=by
  by_cases h2 : szdE p s ≠ 0
  ·rw [if_pos h2] at h; exact h
  ·exact Classical.not_not.1 h2
 have hs : sizeE p s = 0:=by
  unfold sizeE
  rw [if_neg (fun y=>y (vlq_of hp).vld)]
  exact hz
 refine ⟨hp, ht, hs, ?_⟩
 unfold sizQ
 rw [if_neg (fun y=>y hp)]
 exact hs
theorem IsInitialT (p : Pro) (q : Prp) (s : Siz) (c : Cfg) (hp : ¬ bigP p) (hq : ¬ bigQ q) (hw : wideB c = false) (h0 : sizQ p q s = 0) : PSpec Tryz.prog 25 [.agg (encP p), .agg (encQ q), .agg (encZ s), .agg (encC c)] (fun u=>u = .bool (decide (isI p q s c))):=by
 have hz:=sizQ_ok h0
 refine PSpec.intro tt_ok mx_ok Tryz.func25 rfl (by decide) ?_; (conv=>whnf)
 refine boxP rfl ?_
 conv=>whnf
 refine boxP rfl ?_
 conv=>whnf
 refine boxP rfl ?_
 conv=>whnf
 refine boxP rfl ?_
 conv=>whnf
 (refine oP (sizedPropertyR p q s hp hq) ?_; conv=>whnf)
 refine tI ?_
 conv=>whnf
 refine dC (isInitialR p q s c hp hq hw hz.2) (fun _=>?_) (fun _=>?_) <;> (conv=>whnf)
 ·rename_i h; exact ⟨dec_t h, rfl⟩
 ·rename_i h; exact ⟨dec_f h, rfl⟩
end Go.Proofs.YtnjggjhkfncnlaaGreatDoor
