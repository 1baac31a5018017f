import Derived.Test.YtkanoljhphmdcaaGreatDoorV1
import Derived.Test.YtkanoljhphmdcaaGreatDoorFwA
set_option linter.unusedVariables false
set_option linter.unusedSimpArgs false
namespace Go.Proofs.YtkanoljhphmdcaaGreatDoor
set_option maxRecDepth 100000
set_option maxHeartbeats 16000000
theorem inR4 (l : List Int) (s : Int) (hl : l.length ≤ 4503599627370496) : PSpec Tryz.prog 95 [.sl 0 encI l, .int .i64 s] (fun u => u = .bool (decide (s ∈ l))) := by
 refine PSpec.intro tt_ok mx_ok Tryz.func95 rfl (by decide) ?_; (conv => whnf)
 refine WPc.loopF tt_ok mx_ok (fun k : Nat => k ≤ l.length ∧ s ∉ l.take k) (fun k => [(5, .int .i64 (k : Int))]) (fun _ => []) (fun k => l.length - k) 0 ⟨by omega, by simp⟩ ?_; conv => whnf
 refine ⟨sI, ?_⟩
 rintro k ⟨hk, ha⟩
 conv => whnf
 repeat' ((first|refine nI ?_|refine aI ?_|refine arU trivial (by omega) ?_|refine arB trivial (by omega) ?_|refine dI ?_|refine dR ?_|refine dP ?_|refine boxP rfl ?_|refine pI _ rfl ?_|refine rowSetI _ rfl ?_|refine tI ?_|refine fI ?_|refine cmpI (fun _ => ?_) (fun _ => ?_)) <;> conv => whnf)
 ·rename_i h1 h2
  rw [tN] at h2
  refine ⟨dec_t ?_, rfl⟩
  rw [← h2]
  exact mem_getD _ (by omega)
 ·rename_i h1 h2
  rw [tN] at h2
  refine ⟨k + 1, sI, ⟨by omega, ?_⟩, by dsimp only; omega⟩
  rw [take_succ_getD 0 (by omega), List.mem_append, List.mem_singleton, not_or]
  exact ⟨ha, fun e => h2 e.symm⟩
 ·obtain rfl : k = l.length := by omega
  rw [List.take_length] at ha
  exact ⟨dec_f ha, rfl⟩
theorem thresholdsT_R (p : Pro) (hp : okP p) (hv : validE p = 0) : PSpec Tryz.prog 60 [.agg (encP p)] (fun u => u = .tup [.sl thr0 encThr (thrL p.rules), .int .i64 0]) := by
 refine PSpec.intro tt_ok mx_ok Tryz.func60 rfl (by decide) ?_; (conv => whnf)
 refine boxP rfl ?_
 conv => whnf
 (refine oP (validateR p hp) ?_; conv => whnf)
 refine fI ?_
 conv => whnf
 (refine oP (distinctR p (gsV hv)) ?_; conv => whnf)
 exact ⟨rfl, rfl⟩
theorem scopeR (p : Pro) (q : Prp) (hp : okP p) (hv : validE p = 0) (hq : q.goal.length ≤ 4503599627370496) : PSpec Tryz.prog 52 [.agg (encP p), .agg (encQ q)] (fun u => u = .bool (decide (thrB p ∧ scopeB p q))) := by
 have hle := okP_le hp
 refine PSpec.intro tt_ok mx_ok Tryz.func52 rfl (by decide) ?_; (conv => whnf)
 refine boxP rfl ?_
 conv => whnf
 refine boxP rfl ?_
 conv => whnf
 refine Spec.of_pure (n := 5) (classT p hp hv) rfl ?_
 rintro _ ⟨b, c, d, e, rfl⟩
 by_cases ht : thrB p
 case neg =>
  rw [decide_eq_false ht]
  conv => whnf
  exact ⟨dec_f (fun h => ht h.1), rfl⟩
 rw [decide_eq_true ht]
 conv => whnf
 refine WPc.loopF tt_ok mx_ok (fun k : Nat => k ≤ p.rules.length ∧ (q.kind = 2 → ∀ j, j < k → (p.rules.getD j rul0).src ∈ q.goal → (p.rules.getD j rul0).dst ∈ q.goal)) (fun k => [(7, .int .i64 (k : Int))]) (fun _ => [(5, .box 115 [.bool true, .bool b, .bool c, .bool d, .bool e])]) (fun k => p.rules.length - k) 0 ⟨by omega, fun _ j hj => by omega⟩ ?_; conv => whnf
 refine ⟨sI, ?_⟩
 rintro k ⟨hk, ha⟩
 conv => whnf
 refine cmpI ?_ ?_ <;> (intro h1; conv => whnf)
 ·have hlt : k < p.rules.length := by omega
  refine cmpI ?_ ?_ <;> (intro h2; conv => whnf)
  ·refine dI ?_
   conv => whnf
   refine nI ?_
   rw [tN]
   conv => whnf
   refine dD (inR4 q.goal _ hq) (fun _ => ?_) (fun _ => ?_) <;> (conv => whnf)
   ·rename_i h3
    refine nI ?_
    rw [tN]
    conv => whnf
    refine dD (inR4 q.goal _ hq) (fun _ => ?_) (fun _ => ?_) <;> (conv => whnf)
    ·rename_i h4
     repeat' ((first|refine nI ?_|refine aI ?_|refine tI ?_|refine fI ?_|fail);conv => whnf)
     refine ⟨k + 1, sI, ⟨by omega, fun hh j hj => ?_⟩, by dsimp only; omega⟩
     by_cases e : j = k
     ·subst e; exact fun _ => h4
     ·exact ha hh j (by omega)
    ·rename_i h4
     exact ⟨dec_f (fun h => h4 (h.2 h2 k hlt h3)), rfl⟩
   ·rename_i h3
    repeat' ((first|refine nI ?_|refine aI ?_|refine tI ?_|refine fI ?_|fail);conv => whnf)
    refine ⟨k + 1, sI, ⟨by omega, fun hh j hj => ?_⟩, by dsimp only; omega⟩
    by_cases e : j = k
    ·subst e; exact fun h => absurd h h3
    ·exact ha hh j (by omega)
  ·exact ⟨dec_t ⟨ht, fun hh => absurd hh h2⟩, rfl⟩
 ·exact ⟨dec_t ⟨ht, fun hh j hj => ha hh j (by omega)⟩, rfl⟩
theorem casesR (p : Pro) (q : Prp) (hv : validE p = 0) : PSpec Tryz.prog 53 [.agg (encP p), .agg (encQ q)] (fun u => u = .int .i64 (csN p q : Int)) := by
 have hle := (vld_of hv).len
 refine PSpec.intro tt_ok mx_ok Tryz.func53 rfl (by decide) ?_; (conv => whnf)
 refine boxP rfl ?_
 conv => whnf
 refine boxP rfl ?_
 conv => whnf
 by_cases hk : q.kind = 2
 ·have hN : csN p q = csK p.rules p.rules.length := by unfold csN; rw [if_pos hk]
  refine WPc.loopF tt_ok mx_ok (fun k : Nat => k ≤ p.rules.length) (fun k => [(6, .int .i64 (k : Int)), (5, .int .i64 (csK p.rules k : Int))]) (fun _ => []) (fun k => p.rules.length - k) 0 (Nat.zero_le _) ?_; conv => whnf
  refine ⟨sI, ?_⟩
  rintro k hk'
  conv => whnf
  refine cmpI ?_ ?_ <;> (intro h2; conv => whnf)
  ·have hlt : k < p.rules.length := by omega
   refine cmpT hk ?_
   conv => whnf
   refine nI ?_
   rw [tN]
   conv => whnf
   have hg := guards_2' hv k hlt
   have hc := csK_9 hv (k := k) (by omega)
   have hn : (csK p.rules (k + 1) : Int) = (csK p.rules k : Int) * (1 + ((p.rules.getD k rul0).guards.length : Int)) := by rw [csK]; push_cast; rfl
   have hb : (csK p.rules k : Int) * (1 + ((p.rules.getD k rul0).guards.length : Int)) ≤ 6561 * 3 := Int.mul_le_mul (by omega) (by omega) (by omega) (by omega)
   have hb0 : 0 ≤ (csK p.rules k : Int) * (1 + ((p.rules.getD k rul0).guards.length : Int)) := Int.mul_nonneg (by omega) (by omega)
   refine aI ?_
   conv => whnf
   refine aI ?_
   conv => whnf
   repeat' ((first|refine nI ?_|refine aI ?_|refine tI ?_|refine fI ?_|fail);conv => whnf)
   refine ⟨k + 1, ?_, by omega, by dsimp only; omega⟩
   dsimp only
   rw [hn]
   exact sI
  ·obtain rfl : k = p.rules.length := by omega
   rw [hN]
   exact ⟨rfl, rfl⟩
 ·have hN : csN p q = 1 := by unfold csN; rw [if_neg hk]
  refine WPc.loopF tt_ok mx_ok (fun _ : Unit => True) (fun _ => [(6, .int .i64 0), (5, .int .i64 1)]) (fun _ => []) (fun _ => 0) () trivial ?_; conv => whnf
  refine ⟨sI, ?_⟩
  rintro _ _
  conv => whnf
  rw [hN]
  refine cmpI ?_ ?_ <;> (intro h2; conv => whnf)
  ·refine cmpF hk ?_
   conv => whnf
   exact ⟨rfl, rfl⟩
  ·exact ⟨rfl, rfl⟩
theorem CheckR (p : Pro) (q : Prp) (hp : okP p) (hq : okQ q) : PSpec Tryz.prog 21 [.agg (encP p), .agg (encQ q)] (fun u => u = .int .i64 (chkE p q)) := by
 have he := chkE.eq_1 p q
 have hlq := okQ_le hq
 refine PSpec.intro tt_ok mx_ok Tryz.func21 rfl (by decide) ?_; (conv => whnf)
 refine boxP rfl ?_
 conv => whnf
 refine boxP rfl ?_
 conv => whnf
 (refine oP (propertyR p q hp hq) ?_; conv => whnf)
 refine cmpI ?_ ?_ <;> (intro h1; conv => whnf)
 ·rw [if_pos h1] at he
  exact ⟨av_int he.symm, rfl⟩
 rw [if_neg h1] at he
 have hv := (vlq_of (show propE p q = 0 by omega)).vld
 refine dC (scopeR p q hp hv (by omega)) (fun _ => ?_) (fun _ => ?_) <;> (conv => whnf)
 ·rename_i hs
  rw [if_neg (fun h => h hs)] at he
  (refine oP (casesR p q hv) ?_; conv => whnf)
  refine cmpI ?_ ?_ <;> (intro h2; conv => whnf)
  ·rw [if_pos (by omega)] at he
   exact ⟨av_int he.symm, rfl⟩
  ·rw [if_neg (by omega)] at he
   exact ⟨av_int he.symm, rfl⟩
 ·rename_i hs
  rw [if_pos hs] at he
  exact ⟨av_int he.symm, rfl⟩
theorem withholdingR (p : Pro) : PSpec Tryz.prog 61 [.agg (encP p)] (fun u => u = .bool (decide (whB p))) := by
 refine PSpec.intro tt_ok mx_ok Tryz.func61 rfl (by decide) ?_; (conv => whnf)
 refine boxP rfl ?_
 conv => whnf
 refine cmpI ?_ ?_ <;> (intro h; conv => whnf)
 ·exact ⟨dec_t (.inl h), rfl⟩
 ·refine cmpI ?_ ?_ <;> (intro h2; conv => whnf)
  ·exact ⟨dec_t (.inr h2), rfl⟩
  ·exact ⟨dec_f (fun hh => by rcases hh with hh | hh; exact h hh; exact h2 hh), rfl⟩
end Go.Proofs.YtkanoljhphmdcaaGreatDoor
