import Derived.Test.YtfoplfpbjajljaaDoorFwB
set_option linter.unusedVariables false
set_option linter.unusedSimpArgs false
namespace Go.Proofs.YtfoplfpbjajljaaDoor
set_option maxRecDepth 100000
set_option maxHeartbeats 16000000
theorem gsV {p : Pro} (hv : validE p = 0) : gsP p := by
 have hb := not_big hv
 have hle := bigP_le hb
 exact ⟨by omega, fun j hj => by have := bigR_le (bigP_rule hb hj); omega⟩
def famC (p : Pro) (q : Prp) : List AV := [.str p.name, .int .i64 p.topology, .sl t0 encT p.states, .sl t0 encT p.messages, .sl t0 encT p.values, .int .i64 p.fault, .sl lin0 encLin p.resilience, .sl 0 encI p.initial, .sl 0 encI p.leader, .sl rul0 encR p.rules,
 .str q.name, .int .i64 q.kind, .sl 0 encI q.start, .sl cnt0 encCnt q.bad, .sl 0 encI q.adjacent, .sl 0 encI q.goal, .sl thr0 encThr (thrL p.rules), .sl 0 encI (stL' p q), .int .i64 (csN p q : Int)]
def famK (p : Pro) (q : Prp) (k : Int) : List AV := [.str p.name, .int .i64 p.topology, .sl t0 encT p.states, .sl t0 encT p.messages, .sl t0 encT p.values, .int .i64 p.fault, .sl lin0 encLin p.resilience, .sl 0 encI p.initial, .sl 0 encI p.leader, .sl rul0 encR p.rules,
 .str q.name, .int .i64 q.kind, .sl 0 encI q.start, .sl cnt0 encCnt q.bad, .sl 0 encI q.adjacent, .sl 0 encI q.goal, .sl thr0 encThr (thrL p.rules), .sl 0 encI (stL' p q), .int .i64 k]
theorem thresholdsT (p : Pro) (hp : okP p) (hv : validE p = 0) : PSpec Tryd.prog 31 [.agg (encP p)] (fun u => u = .tup [.sl thr0 encThr (thrL p.rules), .int .i64 0]) := by
 refine PSpec.intro tt_ok mx_ok Tryd.func31 rfl (by decide) ?_; (conv => whnf)
 refine boxP rfl ?_
 conv => whnf
 (refine oP (validateF p hp) ?_; conv => whnf)
 refine fI ?_
 conv => whnf
 (refine oP (thresholdsF p (gsV hv)) ?_; conv => whnf)
 exact ⟨rfl, rfl⟩
theorem cloneIntsT (l : List Int) (h0 : 0 < l.length) (hl : l.length ≤ 1000) : PSpec Tryd.prog 46 [.sl 0 encI l] (fun u => u = .sl 0 encI l) := by
 refine PSpec.intro tt_ok mx_ok Tryd.func46 rfl (by decide) ?_; (conv => whnf)
 refine needI (fun e => by rw [e] at h0; simp at h0) ?_
 conv => whnf
 refine bldI 0 encI [] rfl ?_
 conv => whnf
 refine appI _ rfl (by simp only [List.length_nil]; omega) ?_
 conv => whnf
 exact ⟨rfl, rfl⟩
theorem startsT (p : Pro) (q : Prp) (hv : propE p q = 0) : PSpec Tryd.prog 28 [.agg (encP p), .agg (encQ q)] (fun u => u = .tup [.sl 0 encI (stL' p q), .int .i64 0]) := by
 have hq := not_bigq hv
 have hp := not_big (vlq_of hv).vld
 have hle := bigP_le hp
 have hlq := bigQ_le hq
 have hi := (vld_of (vlq_of hv).vld).ini
 have he := stL'.eq_1 p q
 refine PSpec.intro tt_ok mx_ok Tryd.func28 rfl (by decide) ?_; (conv => whnf)
 refine boxP rfl ?_
 conv => whnf
 refine boxP rfl ?_
 conv => whnf
 (refine oP (propertyF p q (okP_of hp) (okQ_of hq)) ?_; conv => whnf)
 refine fI ?_
 conv => whnf
 refine cmpI ?_ ?_ <;> (intro h1; conv => whnf)
 ·rw [if_pos (by omega)] at he
  (refine oP (cloneIntsT q.start (by omega) (by omega)) ?_; conv => whnf)
  exact ⟨he ▸ rfl, rfl⟩
 ·rw [if_neg (by omega)] at he
  (refine oP (cloneIntsT p.initial (by omega) (by omega)) ?_; conv => whnf)
  exact ⟨he ▸ rfl, rfl⟩
theorem startsT_e (p : Pro) (q : Prp) (hp : okP p) (hq : okQ q) (hv : propE p q ≠ 0) : PSpec Tryd.prog 28 [.agg (encP p), .agg (encQ q)] (fun u => u = .tup [.nilsl, .int .i64 (propE p q)]) := by
 refine PSpec.intro tt_ok mx_ok Tryd.func28 rfl (by decide) ?_; (conv => whnf)
 refine boxP rfl ?_
 conv => whnf
 refine boxP rfl ?_
 conv => whnf
 (refine oP (propertyF p q hp hq) ?_; conv => whnf)
 refine cmpT hv ?_
 conv => whnf
 exact ⟨rfl, rfl⟩
theorem scopClosF (x : Rul) (q : Prp) (hq : q.goal.length ≤ 4503599627370496) : PSpec Tryd.prog 52 [.agg (encR x), .pd (encQ q)] (fun u => u = .bool (decide (x.src ∈ q.goal ∧ x.dst ∉ q.goal))) := by
 refine PSpec.intro tt_ok mx_ok Tryd.func52 rfl (by decide) ?_; (conv => whnf)
 refine boxP rfl ?_
 conv => whnf
 refine dC (iContainsF q.goal _ hq) (fun _ => ?_) (fun _ => ?_) <;> (conv => whnf)
 ·rename_i h1
  refine dC (iContainsF q.goal _ hq) (fun _ => ?_) (fun _ => ?_) <;> (conv => whnf)
  ·rename_i h2; exact ⟨dec_f (fun h => h.2 h2), rfl⟩
  ·rename_i h2; exact ⟨dec_t ⟨h1, h2⟩, rfl⟩
 ·rename_i h1; exact ⟨dec_f (fun h => h1 h.1), rfl⟩
def outB (l : List Rul) (q : Prp) : Prop := ∃ j, j < l.length ∧ (l.getD j rul0).src ∈ q.goal ∧ (l.getD j rul0).dst ∉ q.goal
instance (l : List Rul) (q : Prp) : Decidable (outB l q) := inferInstanceAs (Decidable (∃ j, j < l.length ∧ _))
theorem scopIdxF (l : List Rul) (q : Prp) (hl : l.length ≤ 4503599627370496) (hq : q.goal.length ≤ 4503599627370496) : PSpec Tryd.prog 77 [.sl rul0 encR l, .fn 52 [.pd (encQ q)]] (fun u => ∃ n : Int, u = .int .i64 n ∧ (0 ≤ n ↔ outB l q)) := by
 refine PSpec.intro tt_ok mx_ok Tryd.func77 rfl (by decide) ?_; (conv => whnf)
 refine WPc.loopF tt_ok mx_ok (fun k : Nat => k ≤ l.length ∧ ∀ j, j < k → ¬ ((l.getD j rul0).src ∈ q.goal ∧ (l.getD j rul0).dst ∉ q.goal)) (fun k => [(8, .int .i64 (k : Int))]) (fun _ => []) (fun k => l.length - k) 0 ⟨by omega, fun j hj => by omega⟩ ?_; conv => whnf
 refine ⟨sI, ?_⟩
 rintro k ⟨hk, ha⟩
 conv => whnf
 refine cmpI ?_ ?_ <;> (intro h1; conv => whnf)
 ·refine nI ?_
  rw [tN]
  conv => whnf
  refine dC (scopClosF (l.getD k rul0) q hq) (fun _ => ?_) (fun _ => ?_) <;> (conv => whnf)
  ·rename_i h2
   exact ⟨⟨k, rfl, fun _ => ⟨k, by omega, h2⟩, fun _ => by omega⟩, rfl⟩
  ·rename_i h2
   repeat' ((first|refine nI ?_|refine aI ?_|refine arU trivial (by omega) ?_|refine arB trivial (by omega) ?_|refine dI ?_|refine dR ?_|refine dP ?_|refine boxP rfl ?_|refine pI _ rfl ?_|refine rowSetI _ rfl ?_|refine tI ?_|refine fI ?_|refine cmpI (fun _ => ?_) (fun _ => ?_)) <;> conv => whnf)
   refine ⟨k + 1, sI, ⟨by omega, fun j hj => ?_⟩, by dsimp only; omega⟩
   by_cases e : j = k
   ·subst e; exact h2
   ·exact ha j (by omega)
 ·exact ⟨⟨-1, rfl, fun h => by omega, fun ⟨j, h1, h2⟩ => absurd h2 (ha j (by omega))⟩, rfl⟩
theorem scopHasF (l : List Rul) (q : Prp) (hl : l.length ≤ 4503599627370496) (hq : q.goal.length ≤ 4503599627370496) : PSpec Tryd.prog 51 [.sl rul0 encR l, .fn 52 [.pd (encQ q)]] (fun u => u = .bool (decide (outB l q))) := by
 refine PSpec.intro tt_ok mx_ok Tryd.func51 rfl (by decide) ?_; (conv => whnf)
 refine Spec.of_pure (n := 5) (scopIdxF l q hl hq) rfl ?_
 rintro _ ⟨n, rfl, hn⟩
 conv => whnf
 refine cmpI ?_ ?_ <;> (intro h; conv => whnf)
 ·exact ⟨dec_t (hn.1 h), rfl⟩
 ·exact ⟨dec_f (fun hh => h (hn.2 hh)), rfl⟩
theorem inScopeF (p : Pro) (q : Prp) (hk : q.kind = 1 ∨ q.kind = 2) (hl : p.rules.length ≤ 4503599627370496) (hq : q.goal.length ≤ 4503599627370496) : PSpec Tryd.prog 30 [.agg (encP p), .agg (encQ q)] (fun u => u = .bool (decide (scopeB p q))) := by
 have key : q.kind = 2 → (scopeB p q ↔ ¬ outB p.rules q) := fun h2 => by
  unfold scopeB outB
  constructor
  ·rintro h ⟨j, h3, h4, h5⟩; exact h5 (h h2 j h3 h4)
  ·intro h _ j h3 h4
   exact Classical.byContradiction fun h5 => h ⟨j, h3, h4, h5⟩
 refine PSpec.intro tt_ok mx_ok Tryd.func30 rfl (by decide) ?_; (conv => whnf)
 refine boxP rfl ?_
 conv => whnf
 refine boxP rfl ?_
 conv => whnf
 refine cmpI ?_ ?_ <;> (intro h; conv => whnf)
 ·exact ⟨dec_t (fun h2 => by omega), rfl⟩
 ·have k := key (by omega)
  refine Spec.borrow (n := 5) (scopHasF p.rules q hl hq) rfl (by rintro _ rfl; rfl) ?_
  rintro _ rfl
  by_cases ho : outB p.rules q
  ·rw [decide_eq_true ho]
   conv => whnf
   exact ⟨dec_f (fun h => k.1 h ho), rfl⟩
  ·rw [decide_eq_false ho]
   conv => whnf
   exact ⟨dec_t (k.2 ho), rfl⟩
def loadA (p : Pro) (q : Prp) : AV := if chkE p q = 0 then .tup [.pd (famC p q), .int .i64 0] else .tup [.val (.pointer none), .int .i64 (chkE p q)]
theorem loadA_e {p : Pro} {q : Prp} {e : Int} (h : chkE p q = e) (h0 : e ≠ 0) : loadA p q = .tup [.val (.pointer none), .int .i64 e] := by unfold loadA; rw [if_neg (by omega), h]
theorem loadA_z {p : Pro} {q : Prp} (h : chkE p q = 0) : loadA p q = .tup [.pd (famC p q), .int .i64 0] := by unfold loadA; rw [if_pos h]
theorem guards_2' {p : Pro} (hv : validE p = 0) : ∀ j, j < p.rules.length → (p.rules.getD j rul0).guards.length ≤ 2 := fun j hj => by
 have v := vld_of hv
 obtain ⟨_, _, h3, _, _, h6⟩ := rule_parts (v.rul j hj)
 by_cases k : (p.rules.getD j rul0).kind = 1
 ·unfold kindE at h6
  rw [if_pos k] at h6
  exact guards_2 (orl_zero h6 (guardsE p.messages.length (p.rules.getD j rul0).guards) (by simp))
 ·unfold surB at h3; omega
theorem csK_9 {p : Pro} (hv : validE p = 0) {k : Nat} (hk : k ≤ p.rules.length) : csK p.rules k ≤ 6561 := by
 have a := csK_le (guards_2' hv) k hk
 have b := (vld_of hv).len
 have c : (3 : Nat) ^ k ≤ 3 ^ 8 := Nat.pow_le_pow_right (by omega) (by omega)
 omega
theorem loadF (p : Pro) (q : Prp) (hp : okP p) (hq : okQ q) : PSpec Tryd.prog 17 [.agg (encP p), .agg (encQ q)] (fun u => u = loadA p q) := by
 have he := chkE.eq_1 p q
 have hle := okP_le hp
 have hlq := okQ_le hq
 refine PSpec.intro tt_ok mx_ok Tryd.func17 rfl (by decide) ?_; (conv => whnf)
 refine boxP rfl ?_
 conv => whnf
 refine boxP rfl ?_
 conv => whnf
 by_cases h1 : propE p q = 0
 case neg =>
  rw [if_pos h1] at he
  (refine oP (startsT_e p q hp hq h1) ?_; conv => whnf)
  refine cmpT h1 ?_
  conv => whnf
  exact ⟨(loadA_e he h1).symm, rfl⟩
 rw [if_neg (by omega)] at he
 have w := vlq_of h1
 have hv := w.vld
 (refine oP (startsT p q h1) ?_; conv => whnf)
 refine fI ?_
 conv => whnf
 refine Spec.of_pure (n := 5) (classP p hp hv) rfl ?_
 rintro _ ⟨b, c, d, e, rfl⟩
 by_cases ht : thrB p
 case neg =>
  rw [decide_eq_false ht]
  rw [if_pos (fun h => ht h.1)] at he
  conv => whnf
  exact ⟨(loadA_e he (by omega)).symm, rfl⟩
 rw [decide_eq_true ht]
 conv => whnf
 refine dC (inScopeF p q w.kind (by omega) (by omega)) (fun _ => ?_) (fun _ => ?_) <;> (conv => whnf)
 case refine_2 =>
  rename_i hs
  rw [if_pos (fun h => hs h.2)] at he
  exact ⟨(loadA_e he (by omega)).symm, rfl⟩
 rename_i hs
 rw [if_neg (fun h => h ⟨ht, hs⟩)] at he
 (refine oP (thresholdsT p hp hv) ?_; conv => whnf)
 refine boxL ?_
 conv => whnf
 refine cmpI ?_ ?_ <;> (intro hk; conv => whnf)
 ·have hN : csN p q = csK p.rules p.rules.length := by unfold csN; rw [if_pos hk]
  refine WPc.loopF tt_ok mx_ok (fun k : Nat => k ≤ p.rules.length) (fun k => [(55, .int .i64 (k : Int)), (12, .ptr 48 0)]) (fun k => [(8, .box 93 [.bool true, .bool b, .bool c, .bool d, .bool e]), (48, .box 72 (famK p q (csK p.rules k : Int)))]) (fun k => p.rules.length - k) 0 (Nat.zero_le _) ?_; conv => whnf
  refine ⟨sI, ?_⟩
  rintro k hk'
  conv => whnf
  refine cmpI ?_ ?_ <;> (intro h2; conv => whnf)
  ·have hlt : k < p.rules.length := by omega
   refine nI ?_
   rw [tN]
   conv => whnf
   have hg := guards_2' hv k hlt
   have hc := csK_9 hv (k := k) (by omega)
   have hn : (csK p.rules (k + 1) : Int) = (csK p.rules k : Int) * (1 + ((p.rules.getD k rul0).guards.length : Int)) := by rw [csK]; push_cast; rfl
   have hb : (csK p.rules k : Int) * (1 + ((p.rules.getD k rul0).guards.length : Int)) ≤ 6561 * 3 := Int.mul_le_mul (by omega) (by omega) (by omega) (by omega)
   have hb0 : 0 ≤ (csK p.rules k : Int) * (1 + ((p.rules.getD k rul0).guards.length : Int)) := Int.mul_nonneg (by omega) (by omega)
   first | refine dI ?_ | refine drawO (by decide +kernel) ?_
   conv => whnf
   refine aI ?_
   conv => whnf
   refine aI ?_
   conv => whnf
   repeat' ((first|refine nI ?_|refine aI ?_|refine tI ?_|refine fI ?_|fail);conv => whnf)
   refine ⟨k + 1, ?_, by omega, by dsimp only; omega⟩
   dsimp only
   rw [hn]
   exact sI
  ·obtain rfl : k = p.rules.length := by omega
   rw [← hN]
   refine cmpI ?_ ?_ <;> (intro h3; conv => whnf)
   ·rw [if_pos (by omega)] at he
    exact ⟨(loadA_e he (by omega)).symm, rfl⟩
   ·rw [if_neg (by omega)] at he
    exact ⟨(loadA_z he).symm, rfl⟩
 ·have hN : csN p q = 1 := by unfold csN; rw [if_neg hk]
  rw [hN, if_neg (by omega)] at he
  repeat' ((first|refine nI ?_|refine aI ?_|refine tI ?_|refine fI ?_|fail);conv => whnf)
  refine ⟨?_, rfl⟩
  rw [loadA_z he]
  unfold famC
  rw [hN]
  rfl
theorem CheckF (p : Pro) (q : Prp) (hp : okP p) (hq : okQ q) : PSpec Tryd.prog 16 [.agg (encP p), .agg (encQ q)] (fun u => u = .int .i64 (chkE p q)) := by
 refine PSpec.intro tt_ok mx_ok Tryd.func16 rfl (by decide) ?_; (conv => whnf)
 refine boxP rfl ?_
 conv => whnf
 refine boxP rfl ?_
 conv => whnf
 refine Spec.of_pure (n := 5) (loadF p q hp hq) (by rfl) ?_
 rintro _ rfl
 by_cases h : chkE p q = 0
 ·rw [loadA_z h]
  conv => whnf
  exact ⟨av_int h.symm, rfl⟩
 ·rw [loadA_e rfl h]
  conv => whnf
  exact ⟨rfl, rfl⟩
end Go.Proofs.YtfoplfpbjajljaaDoor
