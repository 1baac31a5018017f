import Derived.Test.YtnjggjhkfncnlaaGreatDoorFwX
set_option linter.unusedVariables false
set_option linter.unusedSimpArgs false
namespace Go.Proofs.YtnjggjhkfncnlaaGreatDoor
set_option maxRecDepth 100000
set_option maxHeartbeats 16000000
theorem gsV {p : Pro} (hv : validE p = 0) : gsP p:=by
 have hb:=not_big hv
 have hle:=bigP_le hb
 exact ⟨by omega, fun j hj=>by have:=bigR_le (bigP_rule hb hj); omega⟩
def famC (p : Pro) (q : Prp) : List AV:=[.str p.name, .int .i64 p.topology, .sl t0 encT p.states, .sl t0 encT p.messages, .sl t0 encT p.values, .int .i64 p.fault, .sl lin0 encLin p.resilience, .sl 0 encI p.initial, .sl 0 encI p.leader, .sl rul0 encR p.rules,
 .str q.name, .int .i64 q.kind, .sl 0 encI q.start, .sl cnt0 encCnt q.bad, .sl 0 encI q.adjacent, .sl 0 encI q.goal, .sl thr0 encThr (thrL p.rules), .sl 0 encI (stL' p q), .int .i64 (csN p q : Int)]
def famK (p : Pro) (q : Prp) (k : Int) : List AV:=[.str p.name, .int .i64 p.topology, .sl t0 encT p.states, .sl t0 encT p.messages, .sl t0 encT p.values, .int .i64 p.fault, .sl lin0 encLin p.resilience, .sl 0 encI p.initial, .sl 0 encI p.leader, .sl rul0 encR p.rules,
 .str q.name, .int .i64 q.kind, .sl 0 encI q.start, .sl cnt0 encCnt q.bad, .sl 0 encI q.adjacent, .sl 0 encI q.goal, .sl thr0 encThr (thrL p.rules), .sl 0 encI (stL' p q), .int .i64 k]
theorem thresholdsT (p : Pro) (hp : okP p) (hv : validE p = 0) : PSpec Tryz.prog 68 [.agg (encP p)] (fun u=>u = .tup [.sl thr0 encThr (thrL p.rules), .int .i64 0]):=by
 refine PSpec.intro tt_ok mx_ok Tryz.func68 rfl (by decide) ?_; (conv=>whnf)
 refine boxP rfl ?_
 conv=>whnf
 (refine oP (validateF p hp) ?_; conv=>whnf)
 refine fI ?_
 conv=>whnf
 (refine oP (thresholdsF p (gsV hv)) ?_; conv=>whnf)
 exact ⟨rfl, rfl⟩
theorem cloneIntsT (l : List Int) (h0 : 0 < l.length) (hl : l.length ≤ 1000) : PSpec Tryz.prog 98 [.sl 0 encI l] (fun u=>u = .sl 0 encI l):=by
 refine PSpec.intro tt_ok mx_ok Tryz.func98 rfl (by decide) ?_; (conv=>whnf)
 refine needI (fun e=>by rw [e] at h0; simp at h0) ?_
 conv=>whnf
 refine bldI 0 encI [] rfl ?_
 conv=>whnf
 refine appI _ rfl (by simp only [List.length_nil]; omega) ?_
 conv=>whnf
 exact ⟨rfl, rfl⟩
theorem startsT (p : Pro) (q : Prp) (hv : propE p q = 0) : PSpec Tryz.prog 86 [.agg (encP p), .agg (encQ q)] (fun u=>u = .tup [.sl 0 encI (stL' p q), .int .i64 0]):=by
 have hq:=not_bigq hv
 have hp:=not_big (vlq_of hv).vld
 have hle:=bigP_le hp
 have hlq:=bigQ_le hq
 have hi:=(vld_of (vlq_of hv).vld).ini
 have he:=stL'.eq_1 p q
 refine PSpec.intro tt_ok mx_ok Tryz.func86 rfl (by decide) ?_; (conv=>whnf)
 refine boxP rfl ?_
 conv=>whnf
 refine boxP rfl ?_
 conv=>whnf
 (refine oP (propertyF p q (okP_of hp) (okQ_of hq)) ?_; conv=>whnf)
 refine fI ?_
 conv=>whnf
 refine cmpI ?_ ?_ <;> (intro h1; conv=>whnf)
 ·rw [if_pos (by omega)] at he
  (refine oP (cloneIntsT q.start (by omega) (by omega)) ?_; conv=>whnf)
  exact ⟨he ▸ rfl, rfl⟩
 ·rw [if_neg (by omega)] at he
  (refine oP (cloneIntsT p.initial (by omega) (by omega)) ?_; conv=>whnf)
  exact ⟨he ▸ rfl, rfl⟩
theorem startsT_e (p : Pro) (q : Prp) (hp : okP p) (hq : okQ q) (hv : propE p q ≠ 0) : PSpec Tryz.prog 86 [.agg (encP p), .agg (encQ q)] (fun u=>u = .tup [.nilsl, .int .i64 (propE p q)]):=by
 refine PSpec.intro tt_ok mx_ok Tryz.func86 rfl (by decide) ?_; (conv=>whnf)
 refine boxP rfl ?_
 conv=>whnf
 refine boxP rfl ?_
 conv=>whnf
 (refine oP (propertyF p q hp hq) ?_; conv=>whnf)
 refine cmpT hv ?_
 conv=>whnf
 exact ⟨rfl, rfl⟩
theorem scopClosF (x : Rul) (q : Prp) (hq : q.goal.length ≤ 4503599627370496) : PSpec Tryz.prog 163 [.agg (encR x), .pd (encQ q)] (fun u=>u = .bool (decide (x.src ∈ q.goal ∧ x.dst ∉ q.goal))):=by
 refine PSpec.intro tt_ok mx_ok Tryz.func163 rfl (by decide) ?_; (conv=>whnf)
 refine boxP rfl ?_
 conv=>whnf
 refine dC (iContainsF q.goal _ hq) (fun _=>?_) (fun _=>?_) <;> (conv=>whnf)
 ·rename_i h1
  refine dC (iContainsF q.goal _ hq) (fun _=>?_) (fun _=>?_) <;> (conv=>whnf)
  ·rename_i h2; exact ⟨dec_f (fun h=>h.2 h2), rfl⟩
  ·rename_i h2; exact ⟨dec_t ⟨h1, h2⟩, rfl⟩
 ·rename_i h1; exact ⟨dec_f (fun h=>h1 h.1), rfl⟩
def outB (l : List Rul) (q : Prp) : Prop:=∃ j, j < l.length ∧ (l.getD j rul0).src ∈ q.goal ∧ (l.getD j rul0).dst ∉ q.goal
instance (l : List Rul) (q : Prp) : Decidable (outB l q):=inferInstanceAs (Decidable (∃ j, j < l.length ∧ _))
theorem scopIdxF (l : List Rul) (q : Prp) (hl : l.length ≤ 4503599627370496) (hq : q.goal.length ≤ 4503599627370496) : PSpec Tryz.prog 212 [.sl rul0 encR l, .fn 163 [.pd (encQ q)]] (fun u=>∃ n : Int, u = .int .i64 n ∧ (0 ≤ n ↔ outB l q)):=by
 refine PSpec.intro tt_ok mx_ok Tryz.func212 rfl (by decide) ?_; (conv=>whnf)
 refine WPc.loopF tt_ok mx_ok (fun k : Nat=>k ≤ l.length ∧ ∀ j, j < k → ¬ ((l.getD j rul0).src ∈ q.goal ∧ (l.getD j rul0).dst ∉ q.goal)) (fun k=>[(8, .int .i64 (k : Int))]) (fun _=>[]) (fun k=>l.length - k) 0 ⟨by omega, fun j hj=>by omega⟩ ?_; conv=>whnf
 refine ⟨sI, ?_⟩
 rintro k ⟨hk, ha⟩
 conv=>whnf
 refine cmpI ?_ ?_ <;> (intro h1; conv=>whnf)
 ·refine nI ?_
  rw [tN]
  conv=>whnf
  refine dC (scopClosF (l.getD k rul0) q hq) (fun _=>?_) (fun _=>?_) <;> (conv=>whnf)
  ·rename_i h2
   exact ⟨⟨k, rfl, fun _=>⟨k, by omega, h2⟩, fun _=>by omega⟩, rfl⟩
  ·rename_i h2
   repeat' ((first|refine nI ?_|refine aI ?_|refine arU trivial (by omega) ?_|refine arB trivial (by omega) ?_|refine dI ?_|refine dR ?_|refine dP ?_|refine boxP rfl ?_|refine pI _ rfl ?_|refine rowSetI _ rfl ?_|refine tI ?_|refine fI ?_|refine cmpI (fun _=>?_) (fun _=>?_)) <;> conv=>whnf)
   refine ⟨k + 1, sI, ⟨by omega, fun j hj=>?_⟩, by dsimp only; omega⟩
   by_cases e : j = k
   ·subst e; exact h2
   ·exact ha j (by omega)
 ·exact ⟨⟨-1, rfl, fun h=>by omega, fun ⟨j, h1, h2⟩=>absurd h2 (ha j (by omega))⟩, rfl⟩
theorem scopHasF (l : List Rul) (q : Prp) (hl : l.length ≤ 4503599627370496) (hq : q.goal.length ≤ 4503599627370496) : PSpec Tryz.prog 162 [.sl rul0 encR l, .fn 163 [.pd (encQ q)]] (fun u=>u = .bool (decide (outB l q))):=by
 refine PSpec.intro tt_ok mx_ok Tryz.func162 rfl (by decide) ?_; (conv=>whnf)
 refine Spec.of_pure (n:=5) (scopIdxF l q hl hq) rfl ?_
 rintro _ ⟨n, rfl, hn⟩
 conv=>whnf
 refine cmpI ?_ ?_ <;> (intro h; conv=>whnf)
 ·exact ⟨dec_t (hn.1 h), rfl⟩
 ·exact ⟨dec_f (fun hh=>h (hn.2 hh)), rfl⟩
theorem inScopeF (p : Pro) (q : Prp) (hk : q.kind = 1 ∨ q.kind = 2) (hl : p.rules.length ≤ 4503599627370496) (hq : q.goal.length ≤ 4503599627370496) : PSpec Tryz.prog 88 [.agg (encP p), .agg (encQ q)] (fun u=>u = .bool (decide (scopeB p q))):=by
 have key : q.kind = 2 → (scopeB p q ↔ ¬ outB p.rules q):=fun h2=>by
  unfold scopeB outB
  constructor
  ·rintro h ⟨j, h3, h4, h5⟩; exact h5 (h h2 j h3 h4)
  ·intro h _ j h3 h4
   exact Classical.byContradiction fun h5=>h ⟨j, h3, h4, h5⟩
 refine PSpec.intro tt_ok mx_ok Tryz.func88 rfl (by decide) ?_; (conv=>whnf)
 refine boxP rfl ?_
 conv=>whnf
 refine boxP rfl ?_
 conv=>whnf
 refine cmpI ?_ ?_ <;> (intro h; conv=>whnf)
 ·exact ⟨dec_t (fun h2=>by omega), rfl⟩
 ·have k:=key (by omega)
  refine Spec.borrow (n:=5) (scopHasF p.rules q hl hq) rfl (by rintro _ rfl; rfl) ?_
  rintro _ rfl
  by_cases ho : outB p.rules q
  ·rw [decide_eq_true ho]
   conv=>whnf
   exact ⟨dec_f (fun h=>k.1 h ho), rfl⟩
  ·rw [decide_eq_false ho]
   conv=>whnf
   exact ⟨dec_t (k.2 ho), rfl⟩
def loadA (p : Pro) (q : Prp) : AV:=if chkE p q = 0 then .tup [.pd (famC p q), .int .i64 0] else .tup [.val (.pointer none), .int .i64 (chkE p q)]
theorem loadA_e {p : Pro} {q : Prp} {e : Int} (h : chkE p q = e) (h0 : e ≠ 0) : loadA p q = .tup [.val (.pointer none), .int .i64 e]:=by unfold loadA; rw [if_neg (by omega), h]
theorem loadA_z {p : Pro} {q : Prp} (h : chkE p q = 0) : loadA p q = .tup [.pd (famC p q), .int .i64 0]:=by unfold loadA; rw [if_pos h]
theorem guards_2' {p : Pro} (hv : validE p = 0) : ∀ j, j < p.rules.length → (p.rules.getD j rul0).guards.length ≤ 2:=fun j hj=>by
 have v:=vld_of hv
 obtain ⟨_, _, h3, _, _, h6⟩:=rule_parts (v.rul j hj)
 by_cases k : (p.rules.getD j rul0).kind = 1
 ·unfold kindE at h6
  rw [if_pos k] at h6
  exact guards_2 (orl_zero h6 (guardsE p.messages.length (p.rules.getD j rul0).guards) (by simp))
 ·unfold surB at h3; omega
theorem csK_9 {p : Pro} (hv : validE p = 0) {k : Nat} (hk : k ≤ p.rules.length) : csK p.rules k ≤ 6561:=by
 have a:=csK_le (guards_2' hv) k hk
 have b:=(vld_of hv).len
 have c : (3 : Nat) ^ k ≤ 3 ^ 8:=Nat.pow_le_pow_right (by omega) (by omega)
 omega
theorem loadF (p : Pro) (q : Prp) (hp : okP p) (hq : okQ q) : PSpec Tryz.prog 36 [.agg (encP p), .agg (encQ q)] (fun u=>u = loadA p q):=by
 have he:=chkE.eq_1 p q
 have hle:=okP_le hp
 have hlq:=okQ_le hq
 refine PSpec.intro tt_ok mx_ok Tryz.func36 rfl (by decide) ?_; (conv=>whnf)
 refine boxP rfl ?_
 conv=>whnf
 refine boxP rfl ?_
 conv=>whnf
 by_cases h1 : propE p q = 0
 case neg =>
  rw [if_pos h1] at he
  (refine oP (startsT_e p q hp hq h1) ?_; conv=>whnf)
  refine cmpT h1 ?_
  conv=>whnf
  exact ⟨(loadA_e he h1).symm, rfl⟩
 rw [if_neg (by omega)] at he
 have w:=vlq_of h1
 have hv:=w.vld
 (refine oP (startsT p q h1) ?_; conv=>whnf)
 refine fI ?_
 conv=>whnf
 refine Spec.of_pure (n:=5) (classP p hp hv) rfl ?_
 rintro _ ⟨b, c, d, e, rfl⟩
 by_cases ht : thrB p
 case neg =>
  rw [decide_eq_false ht]
  rw [if_pos (fun h=>ht h.1)] at he
  conv=>whnf
  exact ⟨(loadA_e he (by omega)).symm, rfl⟩
 rw [decide_eq_true ht]
 conv=>whnf
 refine dC (inScopeF p q w.kind (by omega) (by omega)) (fun _=>?_) (fun _=>?_) <;> (conv=>whnf)
 case refine_2 =>
  rename_i hs
  rw [if_pos (fun h=>hs h.2)] at he
  exact ⟨(loadA_e he (by omega)).symm, rfl⟩
 rename_i hs
 rw [if_neg (fun h=>h ⟨ht, hs⟩)] at he
 (refine oP (thresholdsT p hp hv) ?_; conv=>whnf)
 refine boxL ?_
 conv=>whnf
 refine cmpI ?_ ?_ <;> (intro hk; conv=>whnf)
 ·have hN : csN p q = csK p.rules p.rules.length:=by unfold csN; rw [if_pos hk]
  refine WPc.loopF tt_ok mx_ok (fun k : Nat=>k ≤ p.rules.length) (fun k=>[(55, .int .i64 (k : Int)), (12, .ptr 48 0)]) (fun k=>[(8, .box 148 [.bool true, .bool b, .bool c, .bool d, .bool e]), (48, .box 103 (famK p q (csK p.rules k : Int)))]) (fun k=>p.rules.length - k) 0 (Nat.zero_le _) ?_; conv=>whnf
  refine ⟨sI, ?_⟩
  rintro k hk'
  conv=>whnf
  refine cmpI ?_ ?_ <;> (intro h2; conv=>whnf)
  ·have hlt : k < p.rules.length:=by omega
   refine nI ?_
   rw [tN]
   conv=>whnf
   have hg:=guards_2' hv k hlt
   have hc:=csK_9 hv (k:=k) (by omega)
   have hn : (csK p.rules (k + 1) : Int) = (csK p.rules k : Int) * (1 + ((p.rules.getD k rul0).guards.length : Int)):=by rw [csK]; push_cast; rfl
   have hb : (csK p.rules k : Int) * (1 + ((p.rules.getD k rul0).guards.length : Int)) ≤ 6561 * 3:=Int.mul_le_mul (by omega) (by omega) (by omega) (by omega)
   have hb0 : 0 ≤ (csK p.rules k : Int) * (1 + ((p.rules.getD k rul0).guards.length : Int)):=Int.mul_nonneg (by omega) (by omega)
   first | refine dI ?_ | refine drawO (by decide +kernel) ?_
   conv=>whnf
   refine aI ?_
   conv=>whnf
   refine aI ?_
   conv=>whnf
   repeat' ((first|refine nI ?_|refine aI ?_|refine tI ?_|refine fI ?_|fail);conv=>whnf)
   refine ⟨k + 1, ?_, by omega, by dsimp only; omega⟩
   dsimp only
   rw [hn]
   exact sI
  ·obtain rfl : k = p.rules.length:=by omega
   rw [← hN]
   refine cmpI ?_ ?_ <;> (intro h3; conv=>whnf)
   ·rw [if_pos (by omega)] at he
    exact ⟨(loadA_e he (by omega)).symm, rfl⟩
   ·rw [if_neg (by omega)] at he
    exact ⟨(loadA_z he).symm, rfl⟩
 ·have hN : csN p q = 1:=by unfold csN; rw [if_neg hk]
  rw [hN, if_neg (by omega)] at he
  repeat' ((first|refine nI ?_|refine aI ?_|refine tI ?_|refine fI ?_|fail);conv=>whnf)
  refine ⟨?_, rfl⟩
  rw [loadA_z he]
  unfold famC
  rw [hN]
  rfl
theorem CheckF (p : Pro) (q : Prp) (hp : okP p) (hq : okQ q) : PSpec Tryz.prog 35 [.agg (encP p), .agg (encQ q)] (fun u=>u = .int .i64 (chkE p q)):=by
 refine PSpec.intro tt_ok mx_ok Tryz.func35 rfl (by decide) ?_; (conv=>whnf)
 refine boxP rfl ?_
 conv=>whnf
 refine boxP rfl ?_
 conv=>whnf
 refine Spec.of_pure (n:=5) (loadF p q hp hq) (by rfl) ?_
 rintro _ rfl
 by_cases h : chkE p q = 0
 ·rw [loadA_z h]
  conv=>whnf
  exact ⟨av_int h.symm, rfl⟩
 ·rw [loadA_e rfl h]
  conv=>whnf
  exact ⟨rfl, rfl⟩
def thI : List Thr → Thr → Int
 |[], _=>-1
 |a :: l, g=>if a = g then 0 else if thI l g < 0 then -1 else thI l g + 1
theorem thI_none {g : Thr} : ∀ {l : List Thr}, g ∉ l → thI l g = -1
 |[], _=>rfl
 |a :: l, h=>by
  rw [List.mem_cons, not_or] at h
  rw [thI, if_neg (fun e=>h.1 e.symm), thI_none h.2, if_pos (by omega)]
theorem thI_at {g : Thr} : ∀ {l : List Thr} {k : Nat}, k < l.length → g ∉ l.take k → l.getD k thr0 = g → thI l g = (k : Int)
 |[], k, h, _, _=>by simp at h
 |a :: l, 0, _, _, h=>by rw [thI, if_pos (show a = g from h)]; rfl
 |a :: l, k + 1, h, h1, h2=>by
  rw [List.take_succ_cons, List.mem_cons, not_or] at h1
  have:=thI_at (l:=l) (k:=k) (by simpa using h) h1.2 h2
  rw [thI, if_neg (fun e=>h1.1 e.symm), this, if_neg (by omega)]
  omega
theorem thI_rng (g : Thr) : ∀ l : List Thr, -1 ≤ thI l g ∧ thI l g < l.length
 |[]=>by simp [thI]
 |a :: l=>by
  have:=thI_rng g l
  rw [thI]
  simp only [List.length_cons]
  split
  ·omega
  ·split <;> omega
theorem thI_get {g : Thr} : ∀ {l : List Thr}, g ∈ l → 0 ≤ thI l g ∧ l.getD (thI l g).toNat thr0 = g
 |a :: l, h=>by
  rw [thI]
  by_cases e : a = g
  ·rw [if_pos e]; exact ⟨by omega, e⟩
  ·rw [if_neg e]
   obtain ⟨h1, h2⟩:=thI_get (l:=l) (by rcases List.mem_cons.1 h with h | h; exact absurd h.symm e; exact h)
   rw [if_neg (by omega)]
   refine ⟨by omega, ?_⟩
   rw [show (thI l g + 1).toNat = (thI l g).toNat + 1 by omega]
   exact h2
theorem addT_nodup {acc : List Thr} {g : Thr} (h : acc.Nodup) : (addT acc g).Nodup:=by
 unfold addT
 split
 ·exact h
 ·rename_i hm
  rw [List.nodup_append]
  exact ⟨h, by simp, fun a ha b hb e=>by rw [List.mem_singleton] at hb; subst hb; subst e; exact hm ha⟩
theorem foldT_nodup : ∀ (gs acc : List Thr), acc.Nodup → (gs.foldl addT acc).Nodup
 |[], _, h=>h
 |g :: gs, acc, h=>foldT_nodup gs _ (addT_nodup h)
theorem thrL_nodup (rs : List Rul) : (thrL rs).Nodup:=foldT_nodup _ _ (by simp)
theorem addT_acc {acc : List Thr} {g x : Thr} (h : x ∈ acc) : x ∈ addT acc g:=by
 unfold addT
 split
 ·exact h
 ·exact List.mem_append_left _ h
theorem addT_self (acc : List Thr) (g : Thr) : g ∈ addT acc g:=by
 unfold addT
 split
 ·assumption
 ·exact List.mem_append_right _ (List.mem_singleton.2 rfl)
theorem foldT_all : ∀ (gs acc : List Thr) (x : Thr), x ∈ acc ∨ x ∈ gs → x ∈ gs.foldl addT acc
 |[], _, x, h=>by rcases h with h | h; exact h; cases h
 |g :: gs, acc, x, h=>by
  rw [List.foldl_cons]
  refine foldT_all gs _ x ?_
  rcases h with h | h
  ·exact .inl (addT_acc h)
  ·rcases List.mem_cons.1 h with rfl | h
   ·exact .inl (addT_self acc x)
   ·exact .inr h
theorem thrL_all {rs : List Rul} {j : Nat} (hj : j < rs.length) {g : Thr} (h : g ∈ (rs.getD j rul0).guards) : g ∈ thrL rs:=by
 refine foldT_all _ _ g (.inr (List.mem_flatMap.2 ⟨rs.getD j rul0, mem_getD _ hj, h⟩))
theorem open_iff {T : List Thr} (hn : T.Nodup) {g : Thr} (hg : g ∈ T) {sch : List Int} (hs : schB T.length sch) {j : Nat} (hj : j ≤ sch.length) : thI T g ∈ sch.take j ↔ ∃ i, i < j ∧ T.getD (sch.getD i 0).toNat thr0 = g:=by
 obtain ⟨h0, h1⟩:=thI_get hg
 have hr:=thI_rng g T
 constructor
 ·intro h
  obtain ⟨i, hi, e⟩:=List.mem_take_iff_getElem.1 h
  refine ⟨i, by omega, ?_⟩
  rw [getD_elem 0 (by omega), e]
  exact h1
 ·rintro ⟨i, hi, e⟩
  have hb:=(hs i (by omega)).1
  have e2 : sch.getD i 0 = thI T g:=by
   have a : (sch.getD i 0).toNat < T.length:=by omega
   have b : (thI T g).toNat < T.length:=by omega
   rw [getD_elem thr0 a] at e
   rw [getD_elem thr0 b] at h1
   have:=(List.getElem_inj hn).1 (e.trans h1.symm)
   omega
  exact List.mem_take_iff_getElem.2 ⟨i, by omega, by rw [← e2, getD_elem 0 (by omega)]⟩
theorem thrIndexX (l : List Thr) (g : Thr) (hl : l.length ≤ 4503599627370496) : PSpec Tryz.prog 206 [.sl thr0 encThr l, .agg (encThr g)] (fun u=>u = .int .i64 (thI l g)):=by
 refine PSpec.intro tt_ok mx_ok Tryz.func206 rfl (by decide) ?_; (conv=>whnf)
 refine boxP rfl ?_
 conv=>whnf
 refine WPc.loopF tt_ok mx_ok (fun k : Nat=>k ≤ l.length ∧ g ∉ l.take k) (fun k=>[(8, .int .i64 (k : Int))]) (fun _=>[]) (fun k=>l.length - k) 0 ⟨by omega, by simp⟩ ?_; conv=>whnf
 refine ⟨sI, ?_⟩
 rintro k ⟨hk, ha⟩
 conv=>whnf
 repeat' ((first|refine nI ?_|refine aI ?_|refine arU trivial (by omega) ?_|refine arB trivial (by omega) ?_|refine dI ?_|refine dR ?_|refine dP ?_|refine boxP rfl ?_|refine pI _ rfl ?_|refine rowSetI _ rfl ?_|refine tI ?_|refine fI ?_|refine cmpI (fun _=>?_) (fun _=>?_)) <;> conv=>whnf)
 ·rename_i h1 h2
  rw [tN] at h2
  have h2 : g = l.getD k thr0:=thrN_inj.1 h2
  refine ⟨av_int ?_, rfl⟩
  rw [thI_at (by omega) ha h2.symm]
 ·rename_i h1 h2
  rw [tN] at h2
  refine ⟨k + 1, sI, ⟨by omega, ?_⟩, by dsimp only; omega⟩
  rw [take_succ_getD thr0 (by omega), List.mem_append, List.mem_singleton, not_or]
  exact ⟨ha, fun e=>h2 (thrN_inj.2 e)⟩
 ·obtain rfl : k = l.length:=by omega
  rw [List.take_length] at ha
  exact ⟨av_int (thI_none ha).symm, rfl⟩
theorem hasFaultyF (p : Pro) (q : Prp) : PSpec Tryz.prog 94 [.pd (famC p q)] (fun u=>u = .bool (decide (whB p))):=by
 refine PSpec.intro tt_ok mx_ok Tryz.func94 rfl (by decide) ?_; (conv=>whnf)
 refine cmpI ?_ ?_ <;> (intro h; conv=>whnf)
 ·exact ⟨dec_t (.inl h), rfl⟩
 ·refine cmpI ?_ ?_ <;> (intro h2; conv=>whnf)
  ·exact ⟨dec_t (.inr h2), rfl⟩
  ·exact ⟨dec_f (fun hh=>by rcases hh with hh | hh; exact h hh; exact h2 hh), rfl⟩
theorem isSchemaF (p : Pro) (q : Prp) (l : List Int) (hl : l.length ≤ 140737488355328) : PSpec Tryz.prog 37 [.pd (famC p q), .sl 0 encI l] (fun u=>u = .bool (decide (schB (thrL p.rules).length l))):=by
 refine PSpec.intro tt_ok mx_ok Tryz.func37 rfl (by decide) ?_; (conv=>whnf)
 refine WPc.loopF tt_ok mx_ok (fun k : Nat=>k ≤ l.length ∧ ∀ i, i < k → (0 ≤ l.getD i 0 ∧ l.getD i 0 < (thrL p.rules).length) ∧ l.getD i 0 ∉ l.take i) (fun k=>[(9, .int .i64 (k : Int))]) (fun _=>[]) (fun k=>l.length - k) 0 ⟨by omega, fun i hi=>by omega⟩ ?_; conv=>whnf
 refine ⟨sI, ?_⟩
 rintro k ⟨hk, ha⟩
 conv=>whnf
 refine cmpI ?_ ?_ <;> (intro h1; conv=>whnf)
 ·have hlt : k < l.length:=by omega
  refine nI ?_
  rw [tN]
  conv=>whnf
  refine cmpI ?_ ?_ <;> (intro h2; conv=>whnf)
  ·exact ⟨dec_f (fun h=>by have:=(h k hlt).1.1; omega), rfl⟩
  refine cmpI ?_ ?_ <;> (intro h3; conv=>whnf)
  ·exact ⟨dec_f (fun h=>by have:=(h k hlt).1.2; omega), rfl⟩
  refine nI ?_
  rw [tN]
  conv=>whnf
  refine dC (iContainsF (l.take k) (l.getD k 0) (by simp; omega)) (fun _=>?_) (fun _=>?_) <;> (conv=>whnf)
  ·rename_i h4
   exact ⟨dec_f (fun h=>(h k hlt).2 h4), rfl⟩
  ·rename_i h4
   repeat' ((first|refine nI ?_|refine aI ?_|refine tI ?_|refine fI ?_|fail);conv=>whnf)
   refine ⟨k + 1, sI, ⟨by omega, fun i hi=>?_⟩, by dsimp only; omega⟩
   by_cases e : i = k
   ·subst e; exact ⟨⟨by omega, by omega⟩, h4⟩
   ·exact ha i (by omega)
 ·exact ⟨dec_t (fun i hi=>ha i (by omega)), rfl⟩
def chO (p : Pro) (number m : Nat) : List Int:=List.replicate (p.rules.length - m) 0 ++ (chL p number).drop (p.rules.length - m)
theorem chO_zero (p : Pro) (number : Nat) : chO p number 0 = List.replicate p.rules.length 0:=by
 unfold chO
 rw [Nat.sub_zero, List.drop_of_length_le (by rw [chL_len]; omega), List.append_nil]
theorem chO_all (p : Pro) (number : Nat) : chO p number p.rules.length = chL p number:=by
 unfold chO
 rw [Nat.sub_self]
 simp
theorem chO_len (p : Pro) {number m : Nat} (h : m ≤ p.rules.length) : (chO p number m).length = p.rules.length:=by
 unfold chO
 rw [List.length_append, List.length_replicate, List.length_drop, chL_len]
 omega
theorem chO_up (p : Pro) {number m : Nat} (h : m < p.rules.length) : (chO p number m).set (p.rules.length - 1 - m) (chD p.rules number (p.rules.length - 1 - m) : Int) = chO p number (m + 1):=by
 unfold chO
 have e1 : p.rules.length - m = (p.rules.length - 1 - m) + 1:=by omega
 have e2 : p.rules.length - (m + 1) = p.rules.length - 1 - m:=by omega
 have e3 : (chL p number).drop (p.rules.length - 1 - m) = (chD p.rules number (p.rules.length - 1 - m) : Int) :: (chL p number).drop (p.rules.length - 1 - m + 1):=by
  rw [List.drop_eq_getElem_cons (by rw [chL_len]; omega)]
  congr 1
  rw [← chL_get (by omega), getD_elem 0 (by rw [chL_len]; omega)]
 rw [e1, e2, e3, List.replicate_succ', List.append_assoc, List.set_append_right _ _ (by simp)]
 simp
theorem choiceF (p : Pro) (q : Prp) (hv : validE p = 0) (number : Nat) (hn : number ≤ 1000000) : PSpec Tryz.prog 171 [.pd (famC p q), .int .i64 (number : Int)] (fun u=>u = if q.kind = 1 then .nilsl else .sl 0 encI (chL p number)):=by
 have hl:=(vld_of hv).len
 refine PSpec.intro tt_ok mx_ok Tryz.func171 rfl (by decide) ?_; (conv=>whnf)
 refine cmpI ?_ ?_ <;> (intro hk; conv=>whnf)
 ·exact ⟨by rw [if_pos hk]; rfl, rfl⟩
 rw [if_neg hk]
 refine mkI 0 encI 0 rfl (by dsimp only; omega) ?_
 rw [tN]
 conv=>whnf
 refine aI ?_
 conv=>whnf
 have hch : ∀ m, chN p.rules number m ≤ number:=by
  intro m
  induction m with
  |zero=>exact Nat.le_refl _
  |succ m ih=>rw [chN]; exact Nat.le_trans (Nat.div_le_self _ _) ih
 refine WPc.loopF tt_ok mx_ok (fun m : Nat=>m ≤ p.rules.length) (fun m=>[(6, .int .i64 ((p.rules.length : Int) - 1 - (m : Int))), (1, .int .i64 (chN p.rules number m : Int))]) (fun m=>[(20, rowN (chO p number m))]) (fun m=>p.rules.length - m) 0 (Nat.zero_le _) ?_; conv=>whnf
 refine ⟨by rw [chO_zero]; exact sI, ?_⟩
 rintro m hm
 conv=>whnf
 refine cmpI ?_ ?_ <;> (intro h1; conv=>whnf)
 ·have hlt : m < p.rules.length:=by omega
  have ei : ((p.rules.length : Int) - 1 - (m : Int)).toNat = p.rules.length - 1 - m:=by omega
  refine nI ?_
  rw [ei]
  conv=>whnf
  have hg:=guards_2' hv (p.rules.length - 1 - m) (by omega)
  have hc:=hch m
  have hup:=chO_up p (number:=number) hlt
  have ed : chD p.rules number (p.rules.length - 1 - m) = chN p.rules number m % (1 + (p.rules.getD (p.rules.length - 1 - m) rul0).guards.length):=by unfold chD; rw [show p.rules.length - 1 - (p.rules.length - 1 - m) = m by omega]
  have eq : chN p.rules number (m + 1) = chN p.rules number m / (1 + (p.rules.getD (p.rules.length - 1 - m) rul0).guards.length):=rfl
  have hlen:=chO_len p (number:=number) (m:=m) (by omega)
  generalize (p.rules.getD (p.rules.length - 1 - m) rul0).guards.length = g at hg ed eq
  have e1g : (1 + (g : Int)) = ((1 + g : Nat) : Int):=by push_cast; rfl
  have et : ((chN p.rules number m : Nat) : Int).tdiv (1 + (g : Int)) = ((chN p.rules number (m + 1) : Nat) : Int):=by rw [e1g, eq, Int.ofNat_tdiv]
  have er : ((chN p.rules number m : Nat) : Int).tmod (1 + (g : Int)) = ((chD p.rules number (p.rules.length - 1 - m) : Nat) : Int):=by rw [e1g, ed, Int.ofNat_tmod]
  have hc1:=hch (m + 1)
  refine aI ?_
  conv=>whnf
  first | refine dI ?_ | refine drawO (by decide +kernel) ?_
  conv=>whnf
  repeat' ((first|refine nI ?_|refine aI ?_|refine tI ?_|refine fI ?_|fail);conv=>whnf)
  rw [et]
  refine arI (by omega) (by omega) ?_
  conv=>whnf
  repeat' ((first|refine nI ?_|refine aI ?_|refine tI ?_|refine fI ?_|fail);conv=>whnf)
  rw [er, ei]
  refine rowSetI ((chD p.rules number (p.rules.length - 1 - m) : Nat) : Int) rfl ?_
  conv=>whnf
  repeat' ((first|refine nI ?_|refine aI ?_|refine tI ?_|refine fI ?_|fail);conv=>whnf)
  refine ⟨m + 1, ?_, by omega, by dsimp only; omega⟩
  dsimp only
  rw [← hup]
  exact sI
 ·obtain rfl : m = p.rules.length:=by omega
  rw [chO_all]
  exact ⟨rfl, rfl⟩
theorem allowedF (p : Pro) (q : Prp) (hv : validE p = 0) (sch : List Int) (hs : schB (thrL p.rules).length sch) (r j : Nat) (hr : r < p.rules.length) (hj : j ≤ sch.length) : PSpec Tryz.prog 141 [.pd (famC p q), .int .i64 (r : Int), .sl 0 encI sch, .int .i64 (j : Int)] (fun u=>u = .bool (decide (allB (thrL p.rules) sch j (p.rules.getD r rul0)))):=by
 have hT:=(vld_of hv).thr
 have hsl:=sch_len hs
 have hg2:=guards_2' hv r hr
 have hin : ∀ g ∈ (p.rules.getD r rul0).guards, (thI (thrL p.rules) g ∈ sch.take j ↔ ∃ i, i < j ∧ (thrL p.rules).getD (sch.getD i 0).toNat thr0 = g):=fun g hg=>open_iff (thrL_nodup _) (thrL_all hr hg) hs hj
 refine PSpec.intro tt_ok mx_ok Tryz.func141 rfl (by decide) ?_; (conv=>whnf)
 refine nI ?_
 rw [tN]
 generalize p.rules.getD r rul0 = x at hin hg2
 conv=>whnf
 refine WPc.loopF tt_ok mx_ok (fun k : Nat=>k ≤ x.guards.length ∧ ∀ i, i < k → ∃ m, m < j ∧ (thrL p.rules).getD (sch.getD m 0).toNat thr0 = x.guards.getD i thr0) (fun k=>[(21, .int .i64 (k : Int))]) (fun _=>[]) (fun k=>x.guards.length - k) 0 ⟨by omega, fun i hi=>by omega⟩ ?_; conv=>whnf
 refine ⟨sI, ?_⟩
 rintro k ⟨hk, ha⟩
 conv=>whnf
 refine cmpI ?_ ?_ <;> (intro h1; conv=>whnf)
 ·have hlt : k < x.guards.length:=by omega
  refine nI ?_
  rw [tN]
  have hgm:=hin _ (mem_getD (l:=x.guards) thr0 hlt)
  conv=>whnf
  refine dI ?_
  conv=>whnf
  refine nI ?_
  rw [tN]
  conv=>whnf
  (refine oC (thrIndexX (thrL p.rules) (x.guards.getD k thr0) (by omega)) ?_; conv=>whnf)
  refine dD (iContainsF (sch.take j) (thI (thrL p.rules) (x.guards.getD k thr0)) (by simp; omega)) (fun _=>?_) (fun _=>?_) <;> (conv=>whnf)
  ·rename_i h2
   repeat' ((first|refine nI ?_|refine aI ?_|refine tI ?_|refine fI ?_|fail);conv=>whnf)
   refine ⟨k + 1, sI, ⟨by omega, fun i hi=>?_⟩, by dsimp only; omega⟩
   by_cases e : i = k
   ·subst e; exact hgm.1 h2
   ·exact ha i (by omega)
  ·rename_i h2
   exact ⟨dec_f (fun h=>h2 (hgm.2 (h _ (mem_getD (l:=x.guards) thr0 hlt)))), rfl⟩
 ·refine ⟨dec_t (fun g hg=>?_), rfl⟩
  obtain ⟨i, hi, e⟩:=List.getElem_of_mem hg
  have:=ha i (by omega)
  rwa [getD_elem thr0 hi, e] at this
def rowVb (l : List Vb) : Blk:=.row 138 vb0 encVb l
def vaA (p : Pro) (q : Prp) (k : Nat) : List Vb:=[⟨0, 0, 0⟩, ⟨1, 0, 0⟩, ⟨2, 0, 0⟩] ++ ((stL' p q).take k).map (fun x=>⟨3, 0, x⟩)
def vaB (p : Pro) (q : Prp) (k : Nat) : List Vb:=vaA p q (stL' p q).length ++ (p.initial.take k).map (fun x=>(⟨4, 0, x⟩ : Vb))
def vaC (p : Pro) (q : Prp) : List Vb:=if whB p then vaB p q p.initial.length else vaA p q (stL' p q).length
def vaD (p : Pro) (q : Prp) (sch : List Int) (j : Nat) : List Vb:=vaC p q ++ (List.range j).flatMap fun j=>segV p sch j p.rules.length
theorem vaA_up (p : Pro) (q : Prp) {k : Nat} (h : k < (stL' p q).length) : vaA p q (k + 1) = vaA p q k ++ [⟨3, 0, (stL' p q).getD k 0⟩]:=by
 unfold vaA; rw [take_succ_getD 0 h, List.map_append, List.append_assoc]; rfl
theorem vaB_up (p : Pro) (q : Prp) {k : Nat} (h : k < p.initial.length) : vaB p q (k + 1) = vaB p q k ++ [⟨4, 0, p.initial.getD k 0⟩]:=by
 unfold vaB; rw [take_succ_getD 0 h, List.map_append, List.append_assoc]; rfl
theorem vaC_eq (p : Pro) (q : Prp) : vaC p q = [⟨0, 0, 0⟩, ⟨1, 0, 0⟩, ⟨2, 0, 0⟩] ++ stV p q:=by
 unfold vaC vaB vaA stV
 split
 ·rw [List.take_length, List.take_length, List.append_assoc]
 ·rw [List.take_length, List.append_nil]
theorem vaD_all (p : Pro) (q : Prp) (sch : List Int) : vaD p q sch (sch.length + 1) = varL p q sch:=by
 unfold vaD varL; rw [vaC_eq]
theorem vaD_up (p : Pro) (q : Prp) (sch : List Int) (j : Nat) : vaD p q sch (j + 1) = vaD p q sch j ++ segV p sch j p.rules.length:=by
 unfold vaD; rw [List.range_succ, List.flatMap_append, List.append_assoc]; simp
theorem segV_zero (p : Pro) (sch : List Int) (j : Nat) (l : List Vb) : l ++ segV p sch j 0 = l:=by simp [segV]
theorem vaA_len {p : Pro} {q : Prp} (hv : propE p q = 0) (k : Nat) : (vaA p q k).length ≤ 9:=by
 have h:=vld_of (vlq_of hv).vld
 have a:=set_len (vlq_of hv).start
 have b:=set_len h.ini.1
 have c:=h.len
 have d : (stL' p q).length ≤ 6:=by unfold stL'; split <;> omega
 unfold vaA
 simp only [List.length_append, List.length_cons, List.length_nil, List.length_map, List.length_take]
 omega
theorem vaB_len {p : Pro} {q : Prp} (hv : propE p q = 0) (k : Nat) : (vaB p q k).length ≤ 15:=by
 have h:=vld_of (vlq_of hv).vld
 have a:=vaA_len hv (stL' p q).length
 have b:=set_len h.ini.1
 have c:=h.len
 unfold vaB
 simp only [List.length_append, List.length_map, List.length_take]
 omega
theorem vaD_len {p : Pro} {q : Prp} (hv : propE p q = 0) {sch : List Int} (hs : schB (thrL p.rules).length sch) (j : Nat) (hj : j ≤ sch.length + 1) : (vaD p q sch j).length ≤ 79:=by
 have w:=vld_of (vlq_of hv).vld
 have a : (vaC p q).length ≤ 15:=by
  unfold vaC
  split
  ·exact vaB_len hv _
  ·have:=vaA_len hv (stL' p q).length; omega
 have b:=segs_len p sch p.rules.length j
 have c:=sch_len hs
 have d:=w.thr
 have e:=w.len
 have f : 2 * p.rules.length * j ≤ 16 * 4:=Nat.mul_le_mul (by omega) (by omega)
 unfold vaD
 rw [List.length_append]
 omega
theorem variablesF (p : Pro) (q : Prp) (hv : propE p q = 0) (sch : List Int) (hs : schB (thrL p.rules).length sch) : PSpec Tryz.prog 72 [.pd (famC p q), .sl 0 encI sch] (fun u=>u = .sl vb0 encVb (varL p q sch)):=by
 have w:=vld_of (vlq_of hv).vld
 have hle:=w.len
 have hT:=w.thr
 have hsl:=sch_len hs
 have hst : (stL' p q).length ≤ 6:=by
  have a:=set_len (vlq_of hv).start
  have b:=set_len w.ini.1
  unfold stL'; split <;> omega
 have hil : p.initial.length ≤ 6:=by have b:=set_len w.ini.1; omega
 refine PSpec.intro tt_ok mx_ok Tryz.func72 rfl (by decide) ?_; (conv=>whnf)
 refine bldI vb0 encVb [⟨0, 0, 0⟩, ⟨1, 0, 0⟩, ⟨2, 0, 0⟩] rfl ?_
 conv=>whnf
 refine WPc.loopF tt_ok mx_ok (fun k : Nat=>k ≤ (stL' p q).length) (fun k=>[(15, .top), (21, .int .i64 (k : Int)), (5, .row 1000 (vaA p q k).length 3)]) (fun k=>[(1000, rowVb (vaA p q k))]) (fun k=>(stL' p q).length - k) 0 (Nat.zero_le _) ?_; conv=>whnf
 refine ⟨Sub.by_ [(1000, .old 15)] _ 400 rfl (auto_) (auto_), ?_⟩
 rintro k hk
 conv=>whnf
 refine cmpI ?_ ?_ <;> (intro h1; conv=>whnf)
 ·have hlt : k < (stL' p q).length:=by omega
  have hal:=vaA_len hv k
  refine nI ?_
  rw [tN]
  conv=>whnf
  refine bldI vb0 encVb [⟨3, 0, (stL' p q).getD k 0⟩] rfl ?_
  conv=>whnf
  refine appI [⟨3, 0, (stL' p q).getD k 0⟩] rfl lI ?_
  conv=>whnf
  repeat' ((first|refine nI ?_|refine aI ?_|refine tI ?_|refine fI ?_|fail);conv=>whnf)
  refine ⟨k + 1, ?_, by omega, by dsimp only; omega⟩
  dsimp only
  rw [vaA_up p q hlt]
  exact Sub.by_ [(1000, .old 29)] _ 400 rfl (auto_) (auto_)
 obtain rfl : k = (stL' p q).length:=by omega
 refine dC (hasFaultyF p q) (fun _=>?_) (fun _=>?_) <;> (conv=>whnf)
 ·rename_i hw
  have hC : vaD p q sch 0 = vaB p q p.initial.length:=by unfold vaD vaC; rw [if_pos hw]; simp
  refine WPc.loopF tt_ok mx_ok (fun k : Nat=>k ≤ p.initial.length) (fun k=>[(39, .int .i64 (k : Int)), (5, .row 1000 (vaB p q k).length 3)]) (fun k=>[(1000, rowVb (vaB p q k))]) (fun k=>p.initial.length - k) 0 (Nat.zero_le _) ?_; conv=>whnf
  refine ⟨by rw [show vaB p q 0 = vaA p q (stL' p q).length by unfold vaB; simp]; exact sI, ?_⟩
  rintro k hk2
  conv=>whnf
  refine cmpI ?_ ?_ <;> (intro h3; conv=>whnf)
  ·have hlt : k < p.initial.length:=by omega
   have hbl:=vaB_len hv k
   refine nI ?_
   rw [tN]
   conv=>whnf
   refine bldI vb0 encVb [⟨4, 0, p.initial.getD k 0⟩] rfl ?_
   conv=>whnf
   refine appI [⟨4, 0, p.initial.getD k 0⟩] rfl lI ?_
   conv=>whnf
   repeat' ((first|refine nI ?_|refine aI ?_|refine tI ?_|refine fI ?_|fail);conv=>whnf)
   refine ⟨k + 1, ?_, by omega, by dsimp only; omega⟩
   dsimp only
   rw [vaB_up p q hlt]
   exact Sub.by_ [(1000, .old 47)] _ 400 rfl (auto_) (auto_)
  obtain rfl : k = p.initial.length:=by omega
  refine aI ?_
  conv=>whnf
  refine WPc.loopF tt_ok mx_ok (fun j : Nat=>j ≤ sch.length + 1) (fun j=>[(52, .int .i64 (j : Int)), (5, .row 1000 (vaD p q sch j).length 3)]) (fun j=>[(1000, rowVb (vaD p q sch j))]) (fun j=>sch.length + 1 - j) 0 (Nat.zero_le _) ?_; conv=>whnf
  refine ⟨by rw [hC]; exact sI, ?_⟩
  rintro j hj
  conv=>whnf
  refine cmpI ?_ ?_ <;> (intro h1; conv=>whnf)
  ·have hDl:=vaD_len hv hs j hj
   refine WPc.loopF tt_ok mx_ok (fun r : Nat=>r ≤ p.rules.length) (fun r=>[(61, .int .i64 (r : Int)), (5, .row 1000 (vaD p q sch j ++ segV p sch j r).length 3)]) (fun r=>[(1000, rowVb (vaD p q sch j ++ segV p sch j r))]) (fun r=>p.rules.length - r) 0 (Nat.zero_le _) ?_; conv=>whnf
   refine ⟨by rw [segV_zero]; exact sI, ?_⟩
   rintro r hr
   conv=>whnf
   refine cmpI ?_ ?_ <;> (intro h2; conv=>whnf)
   ·have hrl : r < p.rules.length:=by omega
    have hsl:=segV_len p sch j r
    have hll : (vaD p q sch j ++ segV p sch j r).length ≤ 1000:=by rw [List.length_append]; omega
    refine dC (allowedF p q (vlq_of hv).vld sch hs r j hrl (by omega)) (fun _=>?_) (fun _=>?_) <;> (conv=>whnf)
    ·rename_i ha
     refine bldI vb0 encVb [⟨5, j, r⟩] rfl ?_
     conv=>whnf
     refine appI [⟨5, j, r⟩] rfl lI ?_
     conv=>whnf
     refine dC (hasFaultyF p q) (fun _=>?_) (fun _=>?_) <;> (conv=>whnf)
     ·rename_i hw
      have e : vaD p q sch j ++ segV p sch j (r + 1) = vaD p q sch j ++ segV p sch j r ++ [⟨5, j, r⟩] ++ [⟨6, j, r⟩]:=by
       rw [segV_up, ruV, if_pos ha, if_pos hw, List.append_assoc, List.append_assoc]; rfl
      refine bldI vb0 encVb [⟨6, j, r⟩] rfl ?_
      conv=>whnf
      refine appI [⟨6, j, r⟩] rfl (by simp only [List.length_append, List.length_cons, List.length_nil] at hll ⊢; omega) ?_
      conv=>whnf
      repeat' ((first|refine nI ?_|refine aI ?_|refine tI ?_|refine fI ?_|fail);conv=>whnf)
      refine ⟨r + 1, ?_, by omega, by dsimp only; omega⟩
      dsimp only
      rw [e]
      exact Sub.by_ [(1000, .old 83)] _ 400 rfl (auto_) (auto_)
     ·rename_i hw
      have e : vaD p q sch j ++ segV p sch j (r + 1) = vaD p q sch j ++ segV p sch j r ++ [⟨5, j, r⟩]:=by
       rw [segV_up, ruV, if_pos ha, if_neg hw, List.append_assoc]
      repeat' ((first|refine nI ?_|refine aI ?_|refine tI ?_|refine fI ?_|fail);conv=>whnf)
      refine ⟨r + 1, ?_, by omega, by dsimp only; omega⟩
      dsimp only
      rw [e]
      exact Sub.by_ [(1000, .old 75)] _ 400 rfl (auto_) (auto_)
    ·rename_i ha
     have e : vaD p q sch j ++ segV p sch j (r + 1) = vaD p q sch j ++ segV p sch j r:=by
      rw [segV_up, ruV, if_neg ha, List.append_nil]
     repeat' ((first|refine nI ?_|refine aI ?_|refine tI ?_|refine fI ?_|fail);conv=>whnf)
     refine ⟨r + 1, ?_, by omega, by dsimp only; omega⟩
     dsimp only
     rw [e]
     exact sI
   ·obtain rfl : r = p.rules.length:=by omega
    have e:=vaD_up p q sch j
    repeat' ((first|refine nI ?_|refine aI ?_|refine tI ?_|refine fI ?_|fail);conv=>whnf)
    refine ⟨j + 1, ?_, by omega, by dsimp only; omega⟩
    dsimp only
    rw [e]
    exact sI
  ·obtain rfl : j = sch.length + 1:=by omega
   rw [vaD_all]
   exact ⟨rfl, rfl⟩
 ·rename_i hw
  have hC : vaD p q sch 0 = vaA p q (stL' p q).length:=by unfold vaD vaC; rw [if_neg hw]; simp
  refine aI ?_
  conv=>whnf
  refine WPc.loopF tt_ok mx_ok (fun j : Nat=>j ≤ sch.length + 1) (fun j=>[(52, .int .i64 (j : Int)), (5, .row 1000 (vaD p q sch j).length 3)]) (fun j=>[(1000, rowVb (vaD p q sch j))]) (fun j=>sch.length + 1 - j) 0 (Nat.zero_le _) ?_; conv=>whnf
  refine ⟨by rw [hC]; exact sI, ?_⟩
  rintro j hj
  conv=>whnf
  refine cmpI ?_ ?_ <;> (intro h1; conv=>whnf)
  ·have hDl:=vaD_len hv hs j hj
   refine WPc.loopF tt_ok mx_ok (fun r : Nat=>r ≤ p.rules.length) (fun r=>[(61, .int .i64 (r : Int)), (5, .row 1000 (vaD p q sch j ++ segV p sch j r).length 3)]) (fun r=>[(1000, rowVb (vaD p q sch j ++ segV p sch j r))]) (fun r=>p.rules.length - r) 0 (Nat.zero_le _) ?_; conv=>whnf
   refine ⟨by rw [segV_zero]; exact sI, ?_⟩
   rintro r hr
   conv=>whnf
   refine cmpI ?_ ?_ <;> (intro h2; conv=>whnf)
   ·have hrl : r < p.rules.length:=by omega
    have hsl:=segV_len p sch j r
    have hll : (vaD p q sch j ++ segV p sch j r).length ≤ 1000:=by rw [List.length_append]; omega
    refine dC (allowedF p q (vlq_of hv).vld sch hs r j hrl (by omega)) (fun _=>?_) (fun _=>?_) <;> (conv=>whnf)
    ·rename_i ha
     refine bldI vb0 encVb [⟨5, j, r⟩] rfl ?_
     conv=>whnf
     refine appI [⟨5, j, r⟩] rfl lI ?_
     conv=>whnf
     refine dC (hasFaultyF p q) (fun _=>?_) (fun _=>?_) <;> (conv=>whnf)
     ·rename_i hw
      have e : vaD p q sch j ++ segV p sch j (r + 1) = vaD p q sch j ++ segV p sch j r ++ [⟨5, j, r⟩] ++ [⟨6, j, r⟩]:=by
       rw [segV_up, ruV, if_pos ha, if_pos hw, List.append_assoc, List.append_assoc]; rfl
      refine bldI vb0 encVb [⟨6, j, r⟩] rfl ?_
      conv=>whnf
      refine appI [⟨6, j, r⟩] rfl (by simp only [List.length_append, List.length_cons, List.length_nil] at hll ⊢; omega) ?_
      conv=>whnf
      repeat' ((first|refine nI ?_|refine aI ?_|refine tI ?_|refine fI ?_|fail);conv=>whnf)
      refine ⟨r + 1, ?_, by omega, by dsimp only; omega⟩
      dsimp only
      rw [e]
      exact Sub.by_ [(1000, .old 83)] _ 400 rfl (auto_) (auto_)
     ·rename_i hw
      have e : vaD p q sch j ++ segV p sch j (r + 1) = vaD p q sch j ++ segV p sch j r ++ [⟨5, j, r⟩]:=by
       rw [segV_up, ruV, if_pos ha, if_neg hw, List.append_assoc]
      repeat' ((first|refine nI ?_|refine aI ?_|refine tI ?_|refine fI ?_|fail);conv=>whnf)
      refine ⟨r + 1, ?_, by omega, by dsimp only; omega⟩
      dsimp only
      rw [e]
      exact Sub.by_ [(1000, .old 75)] _ 400 rfl (auto_) (auto_)
    ·rename_i ha
     have e : vaD p q sch j ++ segV p sch j (r + 1) = vaD p q sch j ++ segV p sch j r:=by
      rw [segV_up, ruV, if_neg ha, List.append_nil]
     repeat' ((first|refine nI ?_|refine aI ?_|refine tI ?_|refine fI ?_|fail);conv=>whnf)
     refine ⟨r + 1, ?_, by omega, by dsimp only; omega⟩
     dsimp only
     rw [e]
     exact sI
   ·obtain rfl : r = p.rules.length:=by omega
    have e:=vaD_up p q sch j
    repeat' ((first|refine nI ?_|refine aI ?_|refine tI ?_|refine fI ?_|fail);conv=>whnf)
    refine ⟨j + 1, ?_, by omega, by dsimp only; omega⟩
    dsimp only
    rw [e]
    exact sI
  ·obtain rfl : j = sch.length + 1:=by omega
   rw [vaD_all]
   exact ⟨rfl, rfl⟩
def varA (p : Pro) (q : Prp) (sch : List Int) : AV:=if chkE p q ≠ 0 then .tup [.nilsl, .int .i64 (chkE p q)] else if ¬ schB (thrL p.rules).length sch then .tup [.nilsl, .int .i64 1] else .tup [.sl vb0 encVb (varL p q sch), .int .i64 0]
theorem chk_prop {p : Pro} {q : Prp} (h : chkE p q = 0) : propE p q = 0:=by
 refine Classical.byContradiction fun hh=>?_
 rw [chkE, if_pos hh] at h
 exact hh h
theorem chk_cls {p : Pro} {q : Prp} (h : chkE p q = 0) : thrB p ∧ scopeB p q:=by
 have h1:=chk_prop h
 rw [chkE, if_neg (by omega)] at h
 refine Classical.byContradiction fun hh=>?_
 rw [if_pos hh] at h
 omega
theorem chk_cs {p : Pro} {q : Prp} (h : chkE p q = 0) : csN p q ≤ 64:=by
 have h1:=chk_prop h
 have h2:=chk_cls h
 rw [chkE, if_neg (by omega), if_neg (fun hh=>hh h2)] at h
 refine Classical.byContradiction fun hh=>?_
 rw [if_pos (by omega)] at h
 omega
theorem VariablesF (p : Pro) (q : Prp) (hp : okP p) (hq : okQ q) (sch : List Int) (hl : sch.length ≤ 140737488355328) : PSpec Tryz.prog 32 [.agg (encP p), .agg (encQ q), .sl 0 encI sch] (fun u=>u = varA p q sch):=by
 have he:=varA.eq_1 p q sch
 refine PSpec.intro tt_ok mx_ok Tryz.func32 rfl (by decide) ?_; (conv=>whnf)
 refine boxP rfl ?_
 conv=>whnf
 refine boxP rfl ?_
 conv=>whnf
 refine Spec.of_pure (n:=5) (loadF p q hp hq) (by rfl) ?_
 rintro _ rfl
 by_cases h : chkE p q = 0
 ·rw [if_neg (by omega)] at he
  rw [loadA_z h]
  conv=>whnf
  refine fI ?_
  conv=>whnf
  refine dC (isSchemaF p q sch hl) (fun _=>?_) (fun _=>?_) <;> (conv=>whnf)
  ·rename_i hs
   rw [if_neg (fun hh=>hh hs)] at he
   (refine oP (variablesF p q (chk_prop h) sch hs) ?_; conv=>whnf)
   exact ⟨he.symm, rfl⟩
  ·rename_i hs
   rw [if_pos hs] at he
   exact ⟨he.symm, rfl⟩
 ·rw [if_pos h] at he
  rw [loadA_e rfl h]
  conv=>whnf
  refine cmpT h ?_
  conv=>whnf
  exact ⟨he.symm, rfl⟩
end Go.Proofs.YtnjggjhkfncnlaaGreatDoor
