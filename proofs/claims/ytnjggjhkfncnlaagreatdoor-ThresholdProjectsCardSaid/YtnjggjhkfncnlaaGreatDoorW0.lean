import Derived.Test.YtnjggjhkfncnlaaGreatDoorV1
import Derived.Test.YtnjggjhkfncnlaaGreatDoorFwX
import Derived.Test.YtnjggjhkfncnlaaGreatDoorP1
import Derived.Test.YtnjggjhkfncnlaaGreatDoorFtE
set_option linter.unusedVariables false
set_option linter.unusedSimpArgs false
namespace Go.Proofs.YtnjggjhkfncnlaaGreatDoor
set_option maxRecDepth 100000
set_option maxHeartbeats 16000000
theorem inR4 (l : List Int) (s : Int) (hl : l.length ≤ 4503599627370496) : PSpec Tryz.prog 27 [.sl 0 encI l, .int .i64 s] (fun u=>u = .bool (decide (s ∈ l))):=by
 refine PSpec.intro tt_ok mx_ok Tryz.func27 rfl (by decide) ?_; (conv=>whnf)
 refine WPc.loopF tt_ok mx_ok (fun k : Nat=>k ≤ l.length ∧ s ∉ l.take k) (fun k=>[(5, .int .i64 (k : Int))]) (fun _=>[]) (fun k=>l.length - k) 0 ⟨by omega, by simp⟩ ?_; conv=>whnf
 refine ⟨sI, ?_⟩
 rintro k ⟨hk, ha⟩
 conv=>whnf
 repeat' ((first|refine nI ?_|refine aI ?_|refine arU trivial (by omega) ?_|refine arB trivial (by omega) ?_|refine dI ?_|refine dR ?_|refine dP ?_|refine boxP rfl ?_|refine pI _ rfl ?_|refine rowSetI _ rfl ?_|refine tI ?_|refine fI ?_|refine cmpI (fun _=>?_) (fun _=>?_)) <;> conv=>whnf)
 ·rename_i h1 h2
  rw [tN] at h2
  refine ⟨dec_t ?_, rfl⟩
  rw [← h2]
  exact mem_getD _ (by omega)
 ·rename_i h1 h2
  rw [tN] at h2
  refine ⟨k + 1, sI, ⟨by omega, ?_⟩, by dsimp only; omega⟩
  rw [take_succ_getD 0 (by omega), List.mem_append, List.mem_singleton, not_or]
  exact ⟨ha, fun e=>h2 e.symm⟩
 ·obtain rfl : k = l.length:=by omega
  rw [List.take_length] at ha
  exact ⟨dec_f ha, rfl⟩
theorem thresholdsT_R (p : Pro) (hp : okP p) (hv : validE p = 0) : PSpec Tryz.prog 80 [.agg (encP p)] (fun u=>u = .tup [.sl thr0 encThr (thrL p.rules), .int .i64 0]):=by
 refine PSpec.intro tt_ok mx_ok Tryz.func80 rfl (by decide) ?_; (conv=>whnf)
 refine boxP rfl ?_
 conv=>whnf
 (refine oP (validateR p hp) ?_; conv=>whnf)
 refine fI ?_
 conv=>whnf
 (refine oP (distinctR p (gsV hv)) ?_; conv=>whnf)
 exact ⟨rfl, rfl⟩
theorem copyIntsT (l : List Int) (hl : l.length ≤ 1000000) : PSpec Tryz.prog 210 [.sl 0 encI l] (fun u=>u = .sl 0 encI l):=by
 refine PSpec.intro tt_ok mx_ok Tryz.func210 rfl (by decide) ?_; (conv=>whnf)
 refine bldI 0 encI [] rfl ?_
 conv=>whnf
 refine appI _ rfl (by simp only [List.length_nil]; omega) ?_
 conv=>whnf
 exact ⟨rfl, rfl⟩
theorem startStatesT (p : Pro) (q : Prp) (h1 : q.start.length ≤ 1000) (h2 : p.initial.length ≤ 1000) : PSpec Tryz.prog 160 [.agg (encP p), .agg (encQ q)] (fun u=>u = .sl 0 encI (stL' p q)):=by
 have he:=stL'.eq_1 p q
 refine PSpec.intro tt_ok mx_ok Tryz.func160 rfl (by decide) ?_; (conv=>whnf)
 refine boxP rfl ?_
 conv=>whnf
 refine boxP rfl ?_
 conv=>whnf
 refine cmpI ?_ ?_ <;> (intro h; conv=>whnf)
 ·rw [if_pos (by omega)] at he
  (refine oP (copyIntsT q.start (by omega)) ?_; conv=>whnf)
  exact ⟨he ▸ rfl, rfl⟩
 ·rw [if_neg (by omega)] at he
  (refine oP (copyIntsT p.initial (by omega)) ?_; conv=>whnf)
  exact ⟨he ▸ rfl, rfl⟩
theorem startsT_R (p : Pro) (q : Prp) (hp : okP p) (hq : okQ q) (hv : propE p q = 0) : PSpec Tryz.prog 83 [.agg (encP p), .agg (encQ q)] (fun u=>u = .tup [.sl 0 encI (stL' p q), .int .i64 0]):=by
 have a:=bigP_le (not_big (vlq_of hv).vld)
 have b:=bigQ_le (not_bigq hv)
 refine PSpec.intro tt_ok mx_ok Tryz.func83 rfl (by decide) ?_; (conv=>whnf)
 refine boxP rfl ?_
 conv=>whnf
 refine boxP rfl ?_
 conv=>whnf
 (refine oP (propertyR p q hp hq) ?_; conv=>whnf)
 refine fI ?_
 conv=>whnf
 (refine oP (startStatesT p q (by omega) (by omega)) ?_; conv=>whnf)
 exact ⟨rfl, rfl⟩
theorem scopeR (p : Pro) (q : Prp) (hp : okP p) (hv : validE p = 0) (hq : q.goal.length ≤ 4503599627370496) : PSpec Tryz.prog 115 [.agg (encP p), .agg (encQ q)] (fun u=>u = .bool (decide (thrB p ∧ scopeB p q))):=by
 have hle:=okP_le hp
 refine PSpec.intro tt_ok mx_ok Tryz.func115 rfl (by decide) ?_; (conv=>whnf)
 refine boxP rfl ?_
 conv=>whnf
 refine boxP rfl ?_
 conv=>whnf
 refine Spec.of_pure (n:=5) (classT p hp hv) rfl ?_
 rintro _ ⟨b, c, d, e, rfl⟩
 by_cases ht : thrB p
 case neg =>
  rw [decide_eq_false ht]
  conv=>whnf
  exact ⟨dec_f (fun h=>ht h.1), rfl⟩
 rw [decide_eq_true ht]
 conv=>whnf
 refine WPc.loopF tt_ok mx_ok (fun k : Nat=>k ≤ p.rules.length ∧ (q.kind = 2 → ∀ j, j < k → (p.rules.getD j rul0).src ∈ q.goal → (p.rules.getD j rul0).dst ∈ q.goal)) (fun k=>[(7, .int .i64 (k : Int))]) (fun _=>[(5, .box 232 [.bool true, .bool b, .bool c, .bool d, .bool e])]) (fun k=>p.rules.length - k) 0 ⟨by omega, fun _ j hj=>by omega⟩ ?_; conv=>whnf
 refine ⟨sI, ?_⟩
 rintro k ⟨hk, ha⟩
 conv=>whnf
 refine cmpI ?_ ?_ <;> (intro h1; conv=>whnf)
 ·have hlt : k < p.rules.length:=by omega
  refine cmpI ?_ ?_ <;> (intro h2; conv=>whnf)
  ·refine dI ?_
   conv=>whnf
   refine nI ?_
   rw [tN]
   conv=>whnf
   refine dD (inR4 q.goal _ hq) (fun _=>?_) (fun _=>?_) <;> (conv=>whnf)
   ·rename_i h3
    refine nI ?_
    rw [tN]
    conv=>whnf
    refine dD (inR4 q.goal _ hq) (fun _=>?_) (fun _=>?_) <;> (conv=>whnf)
    ·rename_i h4
     repeat' ((first|refine nI ?_|refine aI ?_|refine tI ?_|refine fI ?_|fail);conv=>whnf)
     refine ⟨k + 1, sI, ⟨by omega, fun hh j hj=>?_⟩, by dsimp only; omega⟩
     by_cases e : j = k
     ·subst e; exact fun _=>h4
     ·exact ha hh j (by omega)
    ·rename_i h4
     exact ⟨dec_f (fun h=>h4 (h.2 h2 k hlt h3)), rfl⟩
   ·rename_i h3
    repeat' ((first|refine nI ?_|refine aI ?_|refine tI ?_|refine fI ?_|fail);conv=>whnf)
    refine ⟨k + 1, sI, ⟨by omega, fun hh j hj=>?_⟩, by dsimp only; omega⟩
    by_cases e : j = k
    ·subst e; exact fun h=>absurd h h3
    ·exact ha hh j (by omega)
  ·exact ⟨dec_t ⟨ht, fun hh=>absurd hh h2⟩, rfl⟩
 ·exact ⟨dec_t ⟨ht, fun hh j hj=>ha hh j (by omega)⟩, rfl⟩
theorem casesR (p : Pro) (q : Prp) (hv : validE p = 0) : PSpec Tryz.prog 103 [.agg (encP p), .agg (encQ q)] (fun u=>u = .int .i64 (csN p q : Int)):=by
 have hle:=(vld_of hv).len
 refine PSpec.intro tt_ok mx_ok Tryz.func103 rfl (by decide) ?_; (conv=>whnf)
 refine boxP rfl ?_
 conv=>whnf
 refine boxP rfl ?_
 conv=>whnf
 by_cases hk : q.kind = 2
 ·have hN : csN p q = csK p.rules p.rules.length:=by unfold csN; rw [if_pos hk]
  refine WPc.loopF tt_ok mx_ok (fun k : Nat=>k ≤ p.rules.length) (fun k=>[(6, .int .i64 (k : Int)), (5, .int .i64 (csK p.rules k : Int))]) (fun _=>[]) (fun k=>p.rules.length - k) 0 (Nat.zero_le _) ?_; conv=>whnf
  refine ⟨sI, ?_⟩
  rintro k hk'
  conv=>whnf
  refine cmpI ?_ ?_ <;> (intro h2; conv=>whnf)
  ·have hlt : k < p.rules.length:=by omega
   refine cmpT hk ?_
   conv=>whnf
   refine nI ?_
   rw [tN]
   conv=>whnf
   have hg:=guards_2' hv k hlt
   have hc:=csK_9 hv (k:=k) (by omega)
   have hn : (csK p.rules (k + 1) : Int) = (csK p.rules k : Int) * (1 + ((p.rules.getD k rul0).guards.length : Int)):=by rw [csK]; push_cast; rfl
   have hb : (csK p.rules k : Int) * (1 + ((p.rules.getD k rul0).guards.length : Int)) ≤ 6561 * 3:=Int.mul_le_mul (by omega) (by omega) (by omega) (by omega)
   have hb0 : 0 ≤ (csK p.rules k : Int) * (1 + ((p.rules.getD k rul0).guards.length : Int)):=Int.mul_nonneg (by omega) (by omega)
   refine aI ?_
   conv=>whnf
   refine aI ?_
   conv=>whnf
   repeat' ((first|refine nI ?_|refine aI ?_|refine tI ?_|refine fI ?_|fail);conv=>whnf)
   refine ⟨k + 1, ?_, by omega, by dsimp only; omega⟩
   dsimp only
   rw [hn]
   exact sI
  ·obtain rfl : k = p.rules.length:=by omega
   rw [hN]
   exact ⟨rfl, rfl⟩
 ·have hN : csN p q = 1:=by unfold csN; rw [if_neg hk]
  refine WPc.loopF tt_ok mx_ok (fun _ : Unit=>True) (fun _=>[(6, .int .i64 0), (5, .int .i64 1)]) (fun _=>[]) (fun _=>0) () trivial ?_; conv=>whnf
  refine ⟨sI, ?_⟩
  rintro _ _
  conv=>whnf
  rw [hN]
  refine cmpI ?_ ?_ <;> (intro h2; conv=>whnf)
  ·refine cmpF hk ?_
   conv=>whnf
   exact ⟨rfl, rfl⟩
  ·exact ⟨rfl, rfl⟩
theorem CheckR (p : Pro) (q : Prp) (hp : okP p) (hq : okQ q) : PSpec Tryz.prog 53 [.agg (encP p), .agg (encQ q)] (fun u=>u = .int .i64 (chkE p q)):=by
 have he:=chkE.eq_1 p q
 have hlq:=okQ_le hq
 refine PSpec.intro tt_ok mx_ok Tryz.func53 rfl (by decide) ?_; (conv=>whnf)
 refine boxP rfl ?_
 conv=>whnf
 refine boxP rfl ?_
 conv=>whnf
 (refine oP (propertyR p q hp hq) ?_; conv=>whnf)
 refine cmpI ?_ ?_ <;> (intro h1; conv=>whnf)
 ·rw [if_pos h1] at he
  exact ⟨av_int he.symm, rfl⟩
 rw [if_neg h1] at he
 have hv:=(vlq_of (show propE p q = 0 by omega)).vld
 refine dC (scopeR p q hp hv (by omega)) (fun _=>?_) (fun _=>?_) <;> (conv=>whnf)
 ·rename_i hs
  rw [if_neg (fun h=>h hs)] at he
  (refine oP (casesR p q hv) ?_; conv=>whnf)
  refine cmpI ?_ ?_ <;> (intro h2; conv=>whnf)
  ·rw [if_pos (by omega)] at he
   exact ⟨av_int he.symm, rfl⟩
  ·rw [if_neg (by omega)] at he
   exact ⟨av_int he.symm, rfl⟩
 ·rename_i hs
  rw [if_pos hs] at he
  exact ⟨av_int he.symm, rfl⟩
theorem withholdingR (p : Pro) : PSpec Tryz.prog 81 [.agg (encP p)] (fun u=>u = .bool (decide (whB p))):=by
 refine PSpec.intro tt_ok mx_ok Tryz.func81 rfl (by decide) ?_; (conv=>whnf)
 refine boxP rfl ?_
 conv=>whnf
 refine cmpI ?_ ?_ <;> (intro h; conv=>whnf)
 ·exact ⟨dec_t (.inl h), rfl⟩
 ·refine cmpI ?_ ?_ <;> (intro h2; conv=>whnf)
  ·exact ⟨dec_t (.inr h2), rfl⟩
  ·exact ⟨dec_f (fun hh=>by rcases hh with hh | hh; exact h hh; exact h2 hh), rfl⟩
def kO (p : Pro) (a : Int) : Int:=(p.rules.getD a.toNat rul0).src
theorem kO_nat (p : Pro) (r : Nat) : kO p (r : Int) = (p.rules.getD r rul0).src:=by unfold kO; rw [tN]
theorem orderClosF (p : Pro) (q : Prp) (a b : Int) (ha : 0 ≤ a ∧ a < p.rules.length) (hb : 0 ≤ b ∧ b < p.rules.length) : PSpec Tryz.prog 100 [.int .i64 a, .int .i64 b, .pd [.pd (famC p q)]] (fun u=>u = .int .i64 (cmpZ (kO p a) (kO p b))):=by
 refine PSpec.intro tt_ok mx_ok Tryz.func100 rfl (by decide) ?_; (conv=>whnf)
 refine dI ?_
 conv=>whnf
 refine nI ?_
 conv=>whnf
 refine nI ?_
 conv=>whnf
 (refine oC (cmpCompare _ _) ?_; conv=>whnf)
 exact ⟨rfl, rfl⟩
def resL (i n : Nat) : List Int:=((List.range n).drop i).map fun r : Nat=>(r : Int)
theorem resL_up {i n : Nat} (h : i < n) : resL i n = (i : Int) :: resL (i + 1) n:=by
 unfold resL
 rw [List.drop_eq_getElem_cons (by simpa using h)]
 simp
theorem resL_end (n : Nat) : resL n n = []:=by unfold resL; rw [List.drop_of_length_le (by simp)]; rfl
theorem resL_len (i n : Nat) : (resL i n).length = n - i:=by unfold resL; simp
def fnO (p : Pro) (q : Prp) : AV:=.fn 100 [.pd [.pd (famC p q)]]
theorem insSortF (p : Pro) (q : Prp) (hn : p.rules.length ≤ 8) : Spec Tryz.prog 216 [.row 8000 p.rules.length 1, .int .i64 0, .int .i64 (p.rules.length : Int), fnO p q] (Mem.ofL [(8000, rowN (resL 0 p.rules.length))])
  (fun u M=>u = .tup [] ∧ ∃ L, Ins (kO p) p.rules.length L ∧ M = Mem.ofL [(8000, rowN L)]):=by
 by_cases h0 : p.rules.length = 0
 ·refine Spec.norm 400 (R:=fun u M=>u = .tup [] ∧ memR (idL [(8000, rowN (resL 0 p.rules.length))]) 400 M [(8000, rowN (resL 0 p.rules.length))]) ?_ ?_
  ·refine Spec.intro tt_ok mx_ok [(8000, rowN (resL 0 p.rules.length))] Tryz.func216 rfl (by decide) ?_
   conv=>whnf
   refine aI ?_
   conv=>whnf
   refine WPc.loopF tt_ok mx_ok (fun _ : Unit=>True) (fun _=>[(8, .int .i64 1)]) (fun _=>[(8000, rowN (resL 0 p.rules.length))]) (fun _=>0) () trivial ?_; conv=>whnf
   refine ⟨sI, ?_⟩
   rintro _ _
   conv=>whnf
   refine fI ?_
   conv=>whnf
   exact ⟨rfl, (auto_)⟩
  ·rintro u M ⟨rfl, hM⟩
   have e : resL 0 p.rules.length = []:=by rw [h0]; rfl
   refine ⟨_, .tup [], rfl, hM, trivial, rfl, resL 0 p.rules.length, ⟨by rw [e, h0]; rfl, by rw [e]; simp, fun x=>?_⟩, rfl⟩
   rw [e, h0]
   simp
 refine Spec.norm 400 (R:=fun u M=>u = .tup [] ∧ ∃ L, Ins (kO p) p.rules.length L ∧ memR (idL [(8000, rowN L)]) 400 M [(8000, rowN L)]) ?_ ?_
 ·refine Spec.intro tt_ok mx_ok [(8000, rowN (resL 0 p.rules.length))] Tryz.func216 rfl (by decide) ?_
  conv=>whnf
  refine aI ?_
  conv=>whnf
  refine WPc.loopF tt_ok mx_ok (fun x : Nat × List Int=>1 ≤ x.1 ∧ x.1 ≤ p.rules.length ∧ Ins (kO p) x.1 x.2) (fun x=>[(8, .int .i64 (x.1 : Int))]) (fun x=>[(8000, rowN (x.2 ++ resL x.1 p.rules.length))]) (fun x=>p.rules.length - x.1) (1, [0]) ⟨by dsimp only; omega, by dsimp only; omega, Ins.one⟩ ?_; conv=>whnf
  refine ⟨?_, ?_⟩
  ·rw [show ([0] : List Int) ++ resL 1 p.rules.length = resL 0 p.rules.length by rw [resL_up (i:=0) (by omega)]; rfl]
   exact sI
  rintro ⟨i, L⟩ ⟨hi1, hi2, hI⟩
  dsimp only at hi1 hi2 hI ⊢
  have hl:=hI.len
  conv=>whnf
  refine cmpI ?_ ?_ <;> (intro h1; conv=>whnf)
  ·have hlt : i < p.rules.length:=by omega
   have e1:=resL_up hlt
   have hR:=resL_len (i + 1) p.rules.length
   generalize hRe : resL (i + 1) p.rules.length = R at e1 hR
   have hge : ∀ j, j < i → 0 ≤ L.getD j 0 ∧ L.getD j 0 < p.rules.length:=fun j hj=>by
    obtain ⟨r, hr, e⟩:=(hI.mem (L.getD j 0)).1 (mem_getD _ (by omega))
    omega
   refine WPc.loopF tt_ok mx_ok (fun j : Nat=>j ≤ i ∧ ∀ x ∈ L.drop j, kO p i < kO p x) (fun j=>[(9, .int .i64 (j : Int))]) (fun j=>[(8000, rowN (insL L R i j))]) (fun j=>j) i ⟨Nat.le_refl _, fun x hx=>by rw [List.drop_of_length_le (by omega)] at hx; cases hx⟩ ?_; conv=>whnf
   refine ⟨?_, ?_⟩
   ·rw [e1, ← hl, ← insL_top]
    exact sI
   rintro j ⟨hj, ha⟩
   have hlen:=insL_len (L:=L) (R:=R) (i:=(i : Int)) (j:=j) (by omega)
   conv=>whnf
   refine dI ?_
   conv=>whnf
   refine cmpI ?_ ?_ <;> (intro h2; conv=>whnf)
   ·have hj0 : 0 < j:=by omega
    obtain ⟨m, rfl⟩ : ∃ m, j = m + 1:=⟨j - 1, by omega⟩
    have ga:=insL_at (L:=L) (R:=R) (i:=(i : Int)) (j:=m + 1) (by omega)
    have gb:=insL_below (L:=L) (R:=R) (i:=(i : Int)) (j:=m) (by omega)
    have gs:=insL_swap (L:=L) (R:=R) (i:=(i : Int)) (j:=m) (by omega)
    have hm:=hge m (by omega)
    refine nI ?_
    rw [tN]
    conv=>whnf
    refine aI ?_
    conv=>whnf
    refine nI ?_
    rw [show (((m + 1 : Nat) : Int) - 1).toNat = m by omega]
    conv=>whnf
    rw [ga, gb]
    (refine oC (orderClosF p q (i : Int) (L.getD m 0) (by omega) hm) ?_; conv=>whnf)
    refine cmpI ?_ ?_ <;> (intro h3; conv=>whnf)
    ·have hlt3 : kO p (i : Int) < kO p (L.getD m 0):=by
      unfold cmpZ at h3
      split at h3
      ·assumption
      ·split at h3 <;> omega
     refine dI ?_
     conv=>whnf
     repeat' ((first|refine nI ?_|refine aI ?_|refine tI ?_|refine fI ?_|fail);conv=>whnf)
     rw [tN, show (((m + 1 : Nat) : Int) - 1).toNat = m by omega]
     refine rowSetI ((insL L R (i : Int) (m + 1)).getD m 0) rfl ?_
     conv=>whnf
     repeat' ((first|refine nI ?_|refine aI ?_|refine tI ?_|refine fI ?_|fail);conv=>whnf)
     refine rowSetI ((insL L R (i : Int) (m + 1)).getD (m + 1) 0) rfl ?_
     conv=>whnf
     repeat' ((first|refine nI ?_|refine aI ?_|refine tI ?_|refine fI ?_|fail);conv=>whnf)
     refine ⟨m, ?_, ⟨by omega, fun x hx=>?_⟩, by dsimp only; omega⟩
     ·dsimp only
      rw [ga, gb, show (((m + 1 : Nat) : Int) - 1).toNat = m by omega, gs]
      exact sI
     ·rw [List.drop_eq_getElem_cons (by omega), List.mem_cons] at hx
      rcases hx with rfl | hx
      ·rw [← getD_elem 0 (by omega)]; exact hlt3
      ·exact ha x hx
    ·have hge3 : ¬ kO p (i : Int) < kO p (L.getD m 0):=by
      unfold cmpZ at h3
      split at h3
      ·omega
      ·assumption
     repeat' ((first|refine nI ?_|refine aI ?_|refine tI ?_|refine fI ?_|fail);conv=>whnf)
     refine ⟨(i + 1, L.take (m + 1) ++ [(i : Int)] ++ L.drop (m + 1)), ?_, ⟨by dsimp only; omega, by dsimp only; omega, hI.next hj ha (.inr (by rw [Nat.add_sub_cancel]; omega))⟩, by dsimp only; omega⟩
     dsimp only
     rw [hRe]
     exact sI
   ·obtain rfl : j = 0:=by omega
    repeat' ((first|refine nI ?_|refine aI ?_|refine tI ?_|refine fI ?_|fail);conv=>whnf)
    refine ⟨(i + 1, L.take 0 ++ [(i : Int)] ++ L.drop 0), ?_, ⟨by dsimp only; omega, by dsimp only; omega, hI.next hj ha (.inl rfl)⟩, by dsimp only; omega⟩
    dsimp only
    rw [hRe]
    exact sI
  ·obtain rfl : i = p.rules.length:=by omega
   rw [resL_end, List.append_nil]
   exact ⟨rfl, L, hI, (auto_)⟩
 ·rintro u M ⟨rfl, L, hI, hM⟩
  exact ⟨_, .tup [], rfl, hM, trivial, rfl, L, hI, rfl⟩
def soR (p : Pro) : AV → Mem → Prop:=fun u M=>u = .tup [] ∧ ∃ L, Ins (kO p) p.rules.length L ∧ M = Mem.ofL [(8000, rowN L)]
theorem stableF (p : Pro) (q : Prp) (hn : p.rules.length ≤ 8) : Spec Tryz.prog 174 [.row 8000 p.rules.length 1, .int .i64 (p.rules.length : Int), fnO p q] (Mem.ofL [(8000, rowN (resL 0 p.rules.length))]) (soR p):=by
 refine Spec.norm 400 (R:=fun u M=>u = .tup [] ∧ ∃ L, Ins (kO p) p.rules.length L ∧ memR (idL [(8000, rowN L)]) 400 M [(8000, rowN L)]) ?_ ?_
 ·refine Spec.intro tt_ok mx_ok [(8000, rowN (resL 0 p.rules.length))] Tryz.func174 rfl (by decide) ?_
  conv=>whnf
  refine WPc.loopF tt_ok mx_ok (fun _ : Unit=>True) (fun _=>[(7, .int .i64 0), (8, .int .i64 20)]) (fun _=>[(8000, rowN (resL 0 p.rules.length))]) (fun _=>0) () trivial ?_; conv=>whnf
  refine ⟨sI, ?_⟩
  rintro _ _
  conv=>whnf
  refine fI ?_
  conv=>whnf
  refine Spec.call [(8000, .old 8000)] [(8000, rowN (resL 0 p.rules.length))] 400 rfl (auto_) (auto_) (insSortF p q hn) ?_
  rintro u M' ⟨rfl, L, hI, rfl⟩
  refine ⟨[(8000, .old 8000)], [(8000, rowN L)], .tup [], rfl, (auto_), trivial, ?_⟩
  conv=>whnf
  refine WPc.loopF tt_ok mx_ok (fun _ : Unit=>True) (fun _=>[(6, .int .i64 20)]) (fun _=>[(8000, rowN L)]) (fun _=>0) () trivial ?_; conv=>whnf
  refine ⟨sI, ?_⟩
  rintro _ _
  conv=>whnf
  refine fI ?_
  conv=>whnf
  exact ⟨rfl, L, hI, (auto_)⟩
 ·rintro u M ⟨rfl, L, hI, hM⟩
  exact ⟨_, .tup [], rfl, hM, trivial, rfl, L, hI, rfl⟩
theorem sortStableF (p : Pro) (q : Prp) (hn : p.rules.length ≤ 8) : Spec Tryz.prog 99 [.row 8000 p.rules.length 1, fnO p q] (Mem.ofL [(8000, rowN (resL 0 p.rules.length))]) (soR p):=by
 refine Spec.norm 400 (R:=fun u M=>u = .tup [] ∧ ∃ L, Ins (kO p) p.rules.length L ∧ memR (idL [(8000, rowN L)]) 400 M [(8000, rowN L)]) ?_ ?_
 ·refine Spec.intro tt_ok mx_ok [(8000, rowN (resL 0 p.rules.length))] Tryz.func99 rfl (by decide) ?_
  conv=>whnf
  refine Spec.call [(8000, .old 8000)] [(8000, rowN (resL 0 p.rules.length))] 400 rfl (auto_) (auto_) (stableF p q hn) ?_
  rintro u M' ⟨rfl, L, hI, rfl⟩
  refine ⟨[(8000, .old 8000)], [(8000, rowN L)], .tup [], rfl, (auto_), trivial, ?_⟩
  conv=>whnf
  exact ⟨rfl, L, hI, (auto_)⟩
 ·rintro u M ⟨rfl, L, hI, hM⟩
  exact ⟨_, .tup [], rfl, hM, trivial, rfl, L, hI, rfl⟩
def filL (k n : Nat) : List Int:=((List.range k).map fun r : Nat=>(r : Int)) ++ List.replicate (n - k) 0
theorem filL_zero (n : Nat) : filL 0 n = List.replicate n 0:=by simp [filL]
theorem filL_all (n : Nat) : filL n n = resL 0 n:=by simp [filL, resL]
theorem filL_len {k n : Nat} (h : k ≤ n) : (filL k n).length = n:=by simp [filL]; omega
theorem filL_up {k n : Nat} (h : k < n) : (filL k n).set k (k : Int) = filL (k + 1) n:=by
 unfold filL
 rw [List.set_append_right _ _ (by simp), List.length_map, List.length_range, Nat.sub_self, show n - k = (n - (k + 1)) + 1 by omega, List.replicate_succ, List.set_cons_zero, List.range_succ, List.map_append, List.append_assoc]
 rfl
theorem src_rng {p : Pro} (hv : validE p = 0) (r : Nat) (hr : r < p.rules.length) : 0 ≤ kO p (r : Int) ∧ kO p (r : Int) < p.states.length:=by
 rw [kO_nat]
 obtain ⟨_, _, _, h4, _, _⟩:=rule_parts ((vld_of hv).rul r hr)
 exact h4
theorem orderF (p : Pro) (q : Prp) (hv : validE p = 0) : PSpec Tryz.prog 42 [.pd (famC p q)] (fun u=>u = .sl 0 encI (ordL p.rules p.states.length)):=by
 have hn:=(vld_of hv).len
 refine PSpec.intro tt_ok mx_ok Tryz.func42 rfl (by decide) ?_; (conv=>whnf)
 refine boxP rfl ?_
 conv=>whnf
 refine mkI 0 encI 0 rfl (by dsimp only; omega) ?_
 rw [tN]
 conv=>whnf
 refine WPc.loopF tt_ok mx_ok (fun k : Nat=>k ≤ p.rules.length) (fun k=>[(14, .int .i64 (k : Int))]) (fun k=>[(11, rowN (filL k p.rules.length))]) (fun k=>p.rules.length - k) 0 (Nat.zero_le _) ?_; conv=>whnf
 refine ⟨by rw [filL_zero]; exact sI, ?_⟩
 rintro k hk
 have hl:=filL_len hk
 conv=>whnf
 refine cmpI ?_ ?_ <;> (intro h1; conv=>whnf)
 ·have hup:=filL_up (show k < p.rules.length by omega)
  repeat' ((first|refine nI ?_|refine aI ?_|refine tI ?_|refine fI ?_|fail);conv=>whnf)
  rw [tN]
  refine rowSetI (k : Int) rfl ?_
  conv=>whnf
  repeat' ((first|refine nI ?_|refine aI ?_|refine tI ?_|refine fI ?_|fail);conv=>whnf)
  refine ⟨k + 1, ?_, by omega, by dsimp only; omega⟩
  dsimp only
  rw [← hup]
  exact sI
 ·obtain rfl : k = p.rules.length:=by omega
  rw [filL_all]
  refine Spec.call [(8000, .old 11)] [(8000, rowN (resL 0 p.rules.length))] 400 rfl (auto_) (auto_) (sortStableF p q (by omega)) ?_
  rintro u M' ⟨rfl, L, hI, rfl⟩
  refine ⟨[(11, .old 8000)], [(11, rowN L)], .tup [], rfl, (auto_), trivial, ?_⟩
  rw [hI.ext (ns:=p.states.length) (src_rng hv)]
  conv=>whnf
  exact ⟨rfl, rfl⟩
def ordA (p : Pro) (q : Prp) : AV:=if chkE p q ≠ 0 then .tup [.nilsl, .int .i64 (chkE p q)] else .tup [.sl 0 encI (ordL p.rules p.states.length), .int .i64 0]
theorem OrderF (p : Pro) (q : Prp) (hp : okP p) (hq : okQ q) : PSpec Tryz.prog 34 [.agg (encP p), .agg (encQ q)] (fun u=>u = ordA p q):=by
 have he:=ordA.eq_1 p q
 refine PSpec.intro tt_ok mx_ok Tryz.func34 rfl (by decide) ?_; (conv=>whnf)
 refine boxP rfl ?_
 conv=>whnf
 refine boxP rfl ?_
 conv=>whnf
 refine Spec.of_pure (n:=5) (loadF p q hp hq) (by rfl) ?_
 rintro _ rfl
 by_cases h : chkE p q = 0
 ·rw [if_neg (by omega)] at he
  rw [loadA_z h]
  conv=>whnf
  refine fI ?_
  conv=>whnf
  (refine oP (orderF p q (vlq_of (chk_prop h)).vld) ?_; conv=>whnf)
  exact ⟨he.symm, rfl⟩
 ·rw [if_pos h] at he
  rw [loadA_e rfl h]
  conv=>whnf
  refine cmpT h ?_
  conv=>whnf
  exact ⟨he.symm, rfl⟩
theorem allowedTR (p : Pro) (hp : okP p) (hv : validE p = 0) (sch : List Int) (hs : schB (thrL p.rules).length sch) (j : Nat) (x : Rul) (hx : x.guards.length ≤ 2) (hj : j ≤ sch.length) : PSpec Tryz.prog 84 [.agg (encP p), .sl 0 encI sch, .int .i64 (j : Int), .agg (encR x)] (fun u=>u = .bool (decide (allB (thrL p.rules) sch j x))):=by
 have hT:=(vld_of hv).thr
 have hsl:=sch_len hs
 refine PSpec.intro tt_ok mx_ok Tryz.func84 rfl (by decide) ?_; (conv=>whnf)
 refine boxP rfl ?_
 conv=>whnf
 refine boxP rfl ?_
 conv=>whnf
 (refine oP (thresholdsT_R p hp hv) ?_; conv=>whnf)
 refine WPc.loopF tt_ok mx_ok (fun k : Nat=>k ≤ x.guards.length ∧ ∀ i, i < k → ∃ m, m < j ∧ (thrL p.rules).getD (sch.getD m 0).toNat thr0 = x.guards.getD i thr0) (fun k=>[(11, .int .i64 (k : Int))]) (fun _=>[]) (fun k=>x.guards.length - k) 0 ⟨by omega, fun i hi=>by omega⟩ ?_; conv=>whnf
 refine ⟨sI, ?_⟩
 rintro k ⟨hk, ha⟩
 conv=>whnf
 refine cmpI ?_ ?_ <;> (intro h1; conv=>whnf)
 ·have hlt : k < x.guards.length:=by omega
  refine WPc.loopF tt_ok mx_ok (fun y : Nat × Bool=>y.1 ≤ j ∧ (y.2 = true ↔ ∃ m, m < y.1 ∧ (thrL p.rules).getD (sch.getD m 0).toNat thr0 = x.guards.getD k thr0)) (fun y=>[(13, .int .i64 (y.1 : Int)), (12, .bool y.2)]) (fun _=>[]) (fun y=>j - y.1) (0, false) ⟨Nat.zero_le _, fun e=>(by cases e), fun ⟨m, h, _⟩=>(by omega)⟩ ?_; conv=>whnf
  refine ⟨sI, ?_⟩
  rintro ⟨i, b⟩ ⟨hi, hb⟩
  dsimp only at hi hb ⊢
  conv=>whnf
  refine cmpI ?_ ?_ <;> (intro h2; conv=>whnf)
  ·have hil : i < j:=by omega
   have hsi:=(hs i (by omega)).1
   cases b with
   |true =>
    conv=>whnf
    refine dI ?_
    conv=>whnf
    repeat' ((first|refine nI ?_|refine aI ?_|refine tI ?_|refine fI ?_|fail);conv=>whnf)
    refine ⟨(i + 1, true), sI, ⟨by dsimp only; omega, fun _=>?_, fun _=>rfl⟩, by dsimp only; omega⟩
    obtain ⟨m, h3, h4⟩:=hb.1 rfl
    exact ⟨m, by dsimp only; omega, h4⟩
   |false =>
    have hno : ¬ ∃ m, m < i ∧ (thrL p.rules).getD (sch.getD m 0).toNat thr0 = x.guards.getD k thr0:=fun h=>by have:=hb.2 h; cases this
    conv=>whnf
    refine dI ?_
    conv=>whnf
    refine nI ?_
    rw [tN]
    conv=>whnf
    refine nI ?_
    conv=>whnf
    refine nI ?_
    rw [tN]
    conv=>whnf
    refine cmpI ?_ ?_ <;> (intro h3; conv=>whnf)
    ·repeat' ((first|refine nI ?_|refine aI ?_|refine tI ?_|refine fI ?_|fail);conv=>whnf)
     have h3 : (thrL p.rules).getD (sch.getD i 0).toNat thr0 = x.guards.getD k thr0:=thrN_inj.1 h3
     exact ⟨(i + 1, true), sI, ⟨by dsimp only; omega, fun _=>⟨i, by dsimp only; omega, h3⟩, fun _=>rfl⟩, by dsimp only; omega⟩
    ·repeat' ((first|refine nI ?_|refine aI ?_|refine tI ?_|refine fI ?_|fail);conv=>whnf)
     refine ⟨(i + 1, false), sI, ⟨by dsimp only; omega, fun e=>(by cases e), fun ⟨m, h4, h5⟩=>?_⟩, by dsimp only; omega⟩
     dsimp only at h4
     by_cases e : m = i
     ·subst e; exact absurd (thrN_inj.2 h5) h3
     ·exact absurd ⟨m, by omega, h5⟩ hno
  ·obtain rfl : i = j:=by omega
   cases b with
   |true =>
    conv=>whnf
    repeat' ((first|refine nI ?_|refine aI ?_|refine tI ?_|refine fI ?_|fail);conv=>whnf)
    refine ⟨k + 1, sI, ⟨by omega, fun a hak=>?_⟩, by dsimp only; omega⟩
    by_cases e : a = k
    ·subst e; exact hb.1 rfl
    ·exact ha a (by omega)
   |false =>
    conv=>whnf
    refine ⟨dec_f (fun h=>?_), rfl⟩
    have:=hb.2 (h _ (mem_getD (l:=x.guards) thr0 hlt))
    cases this
 ·refine ⟨dec_t (fun g hg=>?_), rfl⟩
  obtain ⟨i, hi, e⟩:=List.getElem_of_mem hg
  have:=ha i (by omega)
  rwa [getD_elem thr0 hi, e] at this
def rowVr (l : List Vb) : Blk:=.row 56 vb0 encVb l
theorem variablesR (p : Pro) (q : Prp) (hp : okP p) (hq : okQ q) (hv : propE p q = 0) (sch : List Int) (hs : schB (thrL p.rules).length sch) : PSpec Tryz.prog 28 [.agg (encP p), .agg (encQ q), .sl 0 encI sch] (fun u=>u = .sl vb0 encVb (varL p q sch)):=by
 have w:=vld_of (vlq_of hv).vld
 have hle:=w.len
 have hT:=w.thr
 have hsl:=sch_len hs
 have hst : (stL' p q).length ≤ 6:=by
  have a:=set_len (vlq_of hv).start
  have b:=set_len w.ini.1
  unfold stL'; split <;> omega
 have hil : p.initial.length ≤ 6:=by have b:=set_len w.ini.1; omega
 refine PSpec.intro tt_ok mx_ok Tryz.func28 rfl (by decide) ?_; (conv=>whnf)
 refine boxP rfl ?_
 conv=>whnf
 refine boxP rfl ?_
 conv=>whnf
 refine bldI vb0 encVb [⟨0, 0, 0⟩, ⟨1, 0, 0⟩, ⟨2, 0, 0⟩] rfl ?_
 conv=>whnf
 (refine oP (startsT_R p q hp hq hv) ?_; conv=>whnf)
 refine WPc.loopF tt_ok mx_ok (fun k : Nat=>k ≤ (stL' p q).length) (fun k=>[(17, .top), (10, .int .i64 (k : Int)), (7, .row 1000 (vaA p q k).length 3)]) (fun k=>[(1000, rowVr (vaA p q k))]) (fun k=>(stL' p q).length - k) 0 (Nat.zero_le _) ?_; conv=>whnf
 refine ⟨Sub.by_ [(1000, .old 17)] _ 400 rfl (auto_) (auto_), ?_⟩
 rintro k hk
 conv=>whnf
 refine cmpI ?_ ?_ <;> (intro h1; conv=>whnf)
 ·have hlt : k < (stL' p q).length:=by omega
  have hal:=vaA_len hv k
  refine nI ?_
  rw [tN]
  conv=>whnf
  refine bldI vb0 encVb [⟨3, 0, (stL' p q).getD k 0⟩] rfl ?_
  conv=>whnf
  refine appI [⟨3, 0, (stL' p q).getD k 0⟩] rfl lI ?_
  conv=>whnf
  repeat' ((first|refine nI ?_|refine aI ?_|refine tI ?_|refine fI ?_|fail);conv=>whnf)
  refine ⟨k + 1, ?_, by omega, by dsimp only; omega⟩
  dsimp only
  rw [vaA_up p q hlt]
  exact Sub.by_ [(1000, .old 37)] _ 400 rfl (auto_) (auto_)
 obtain rfl : k = (stL' p q).length:=by omega
 refine WPc.loopF tt_ok mx_ok (fun k : Nat=>k ≤ p.initial.length ∧ (k ≠ 0 → whB p)) (fun k=>[(11, .int .i64 (k : Int)), (7, .row 1000 (vaB p q k).length 3)]) (fun k=>[(1000, rowVr (vaB p q k))]) (fun k=>p.initial.length - k) 0 ⟨Nat.zero_le _, fun h=>absurd rfl h⟩ ?_; conv=>whnf
 refine ⟨by rw [show vaB p q 0 = vaA p q (stL' p q).length by unfold vaB; simp]; exact sI, ?_⟩
 rintro k ⟨hk2, hkw⟩
 conv=>whnf
 refine cmpI ?_ ?_ <;> (intro h3; conv=>whnf)
 ·have hlt : k < p.initial.length:=by omega
  have hbl:=vaB_len hv k
  refine dC (withholdingR p) (fun _=>?_) (fun _=>?_) <;> (conv=>whnf)
  ·rename_i hw
   refine nI ?_
   rw [tN]
   conv=>whnf
   refine bldI vb0 encVb [⟨4, 0, p.initial.getD k 0⟩] rfl ?_
   conv=>whnf
   refine appI [⟨4, 0, p.initial.getD k 0⟩] rfl lI ?_
   conv=>whnf
   repeat' ((first|refine nI ?_|refine aI ?_|refine tI ?_|refine fI ?_|fail);conv=>whnf)
   refine ⟨k + 1, ?_, ⟨by omega, fun _=>hw⟩, by dsimp only; omega⟩
   dsimp only
   rw [vaB_up p q hlt]
   exact Sub.by_ [(1000, .old 57)] _ 400 rfl (auto_) (auto_)
  ·rename_i hw
   obtain rfl : k = 0:=Classical.byContradiction fun h=>hw (hkw h)
   have hC : vaD p q sch 0 = vaB p q 0:=by unfold vaD vaC; rw [if_neg hw]; unfold vaB; simp
   refine WPc.loopF tt_ok mx_ok (fun j : Nat=>j ≤ sch.length + 1) (fun j=>[(12, .int .i64 (j : Int)), (7, .row 1000 (vaD p q sch j).length 3)]) (fun j=>[(1000, rowVr (vaD p q sch j))]) (fun j=>sch.length + 1 - j) 0 (Nat.zero_le _) ?_; conv=>whnf
   refine ⟨by rw [hC]; exact sI, ?_⟩
   rintro j hj
   conv=>whnf
   refine cmpI ?_ ?_ <;> (intro h1; conv=>whnf)
   ·have hDl:=vaD_len hv hs j hj
    refine WPc.loopF tt_ok mx_ok (fun r : Nat=>r ≤ p.rules.length) (fun r=>[(13, .int .i64 (r : Int)), (7, .row 1000 (vaD p q sch j ++ segV p sch j r).length 3)]) (fun r=>[(1000, rowVr (vaD p q sch j ++ segV p sch j r))]) (fun r=>p.rules.length - r) 0 (Nat.zero_le _) ?_; conv=>whnf
    refine ⟨by rw [segV_zero]; exact sI, ?_⟩
    rintro r hr
    conv=>whnf
    refine cmpI ?_ ?_ <;> (intro h2; conv=>whnf)
    ·have hrl : r < p.rules.length:=by omega
     have hsl:=segV_len p sch j r
     have hll : (vaD p q sch j ++ segV p sch j r).length ≤ 1000:=by rw [List.length_append]; omega
     refine dI ?_
     conv=>whnf
     refine nI ?_
     rw [tN]
     conv=>whnf
     refine dD (allowedTR p hp (vlq_of hv).vld sch hs j (p.rules.getD r rul0) (guards_2' (vlq_of hv).vld r hrl) (by omega)) (fun _=>?_) (fun _=>?_) <;> (conv=>whnf)
     ·rename_i ha
      refine bldI vb0 encVb [⟨5, j, r⟩] rfl ?_
      conv=>whnf
      refine appI [⟨5, j, r⟩] rfl lI ?_
      conv=>whnf
      refine dC (withholdingR p) (fun _=>?_) (fun _=>?_) <;> (conv=>whnf)
      ·rename_i hw
       have e : vaD p q sch j ++ segV p sch j (r + 1) = vaD p q sch j ++ segV p sch j r ++ [⟨5, j, r⟩] ++ [⟨6, j, r⟩]:=by
        rw [segV_up, ruV, if_pos ha, if_pos hw, List.append_assoc, List.append_assoc]; rfl
       refine bldI vb0 encVb [⟨6, j, r⟩] rfl ?_
       conv=>whnf
       refine appI [⟨6, j, r⟩] rfl (by simp only [List.length_append, List.length_cons, List.length_nil] at hll ⊢; omega) ?_
       conv=>whnf
       repeat' ((first|refine nI ?_|refine aI ?_|refine tI ?_|refine fI ?_|fail);conv=>whnf)
       refine ⟨r + 1, ?_, by omega, by dsimp only; omega⟩
       dsimp only
       rw [e]
       exact Sub.by_ [(1000, .old 94)] _ 400 rfl (auto_) (auto_)
      ·rename_i hw
       have e : vaD p q sch j ++ segV p sch j (r + 1) = vaD p q sch j ++ segV p sch j r ++ [⟨5, j, r⟩]:=by
        rw [segV_up, ruV, if_pos ha, if_neg hw, List.append_assoc]
       repeat' ((first|refine nI ?_|refine aI ?_|refine tI ?_|refine fI ?_|fail);conv=>whnf)
       refine ⟨r + 1, ?_, by omega, by dsimp only; omega⟩
       dsimp only
       rw [e]
       exact Sub.by_ [(1000, .old 86)] _ 400 rfl (auto_) (auto_)
     ·rename_i ha
      have e : vaD p q sch j ++ segV p sch j (r + 1) = vaD p q sch j ++ segV p sch j r:=by
       rw [segV_up, ruV, if_neg ha, List.append_nil]
      repeat' ((first|refine nI ?_|refine aI ?_|refine tI ?_|refine fI ?_|fail);conv=>whnf)
      refine ⟨r + 1, ?_, by omega, by dsimp only; omega⟩
      dsimp only
      rw [e]
      exact sI
    ·obtain rfl : r = p.rules.length:=by omega
     have e:=vaD_up p q sch j
     repeat' ((first|refine nI ?_|refine aI ?_|refine tI ?_|refine fI ?_|fail);conv=>whnf)
     refine ⟨j + 1, ?_, by omega, by dsimp only; omega⟩
     dsimp only
     rw [e]
     exact sI
   ·obtain rfl : j = sch.length + 1:=by omega
    rw [vaD_all]
    exact ⟨rfl, rfl⟩
 ·obtain rfl : k = p.initial.length:=by omega
  have hini:=w.ini.2.1
  have hw:=hkw (by omega)
  have hC : vaD p q sch 0 = vaB p q p.initial.length:=by unfold vaD vaC; rw [if_pos hw]; simp
  refine WPc.loopF tt_ok mx_ok (fun j : Nat=>j ≤ sch.length + 1) (fun j=>[(12, .int .i64 (j : Int)), (7, .row 1000 (vaD p q sch j).length 3)]) (fun j=>[(1000, rowVr (vaD p q sch j))]) (fun j=>sch.length + 1 - j) 0 (Nat.zero_le _) ?_; conv=>whnf
  refine ⟨by rw [hC]; exact sI, ?_⟩
  rintro j hj
  conv=>whnf
  refine cmpI ?_ ?_ <;> (intro h1; conv=>whnf)
  ·have hDl:=vaD_len hv hs j hj
   refine WPc.loopF tt_ok mx_ok (fun r : Nat=>r ≤ p.rules.length) (fun r=>[(13, .int .i64 (r : Int)), (7, .row 1000 (vaD p q sch j ++ segV p sch j r).length 3)]) (fun r=>[(1000, rowVr (vaD p q sch j ++ segV p sch j r))]) (fun r=>p.rules.length - r) 0 (Nat.zero_le _) ?_; conv=>whnf
   refine ⟨by rw [segV_zero]; exact sI, ?_⟩
   rintro r hr
   conv=>whnf
   refine cmpI ?_ ?_ <;> (intro h2; conv=>whnf)
   ·have hrl : r < p.rules.length:=by omega
    have hsl:=segV_len p sch j r
    have hll : (vaD p q sch j ++ segV p sch j r).length ≤ 1000:=by rw [List.length_append]; omega
    refine dI ?_
    conv=>whnf
    refine nI ?_
    rw [tN]
    conv=>whnf
    refine dD (allowedTR p hp (vlq_of hv).vld sch hs j (p.rules.getD r rul0) (guards_2' (vlq_of hv).vld r hrl) (by omega)) (fun _=>?_) (fun _=>?_) <;> (conv=>whnf)
    ·rename_i ha
     refine bldI vb0 encVb [⟨5, j, r⟩] rfl ?_
     conv=>whnf
     refine appI [⟨5, j, r⟩] rfl lI ?_
     conv=>whnf
     refine dC (withholdingR p) (fun _=>?_) (fun _=>?_) <;> (conv=>whnf)
     ·rename_i hw
      have e : vaD p q sch j ++ segV p sch j (r + 1) = vaD p q sch j ++ segV p sch j r ++ [⟨5, j, r⟩] ++ [⟨6, j, r⟩]:=by
       rw [segV_up, ruV, if_pos ha, if_pos hw, List.append_assoc, List.append_assoc]; rfl
      refine bldI vb0 encVb [⟨6, j, r⟩] rfl ?_
      conv=>whnf
      refine appI [⟨6, j, r⟩] rfl (by simp only [List.length_append, List.length_cons, List.length_nil] at hll ⊢; omega) ?_
      conv=>whnf
      repeat' ((first|refine nI ?_|refine aI ?_|refine tI ?_|refine fI ?_|fail);conv=>whnf)
      refine ⟨r + 1, ?_, by omega, by dsimp only; omega⟩
      dsimp only
      rw [e]
      exact Sub.by_ [(1000, .old 94)] _ 400 rfl (auto_) (auto_)
     ·rename_i hw
      have e : vaD p q sch j ++ segV p sch j (r + 1) = vaD p q sch j ++ segV p sch j r ++ [⟨5, j, r⟩]:=by
       rw [segV_up, ruV, if_pos ha, if_neg hw, List.append_assoc]
      repeat' ((first|refine nI ?_|refine aI ?_|refine tI ?_|refine fI ?_|fail);conv=>whnf)
      refine ⟨r + 1, ?_, by omega, by dsimp only; omega⟩
      dsimp only
      rw [e]
      exact Sub.by_ [(1000, .old 86)] _ 400 rfl (auto_) (auto_)
    ·rename_i ha
     have e : vaD p q sch j ++ segV p sch j (r + 1) = vaD p q sch j ++ segV p sch j r:=by
      rw [segV_up, ruV, if_neg ha, List.append_nil]
     repeat' ((first|refine nI ?_|refine aI ?_|refine tI ?_|refine fI ?_|fail);conv=>whnf)
     refine ⟨r + 1, ?_, by omega, by dsimp only; omega⟩
     dsimp only
     rw [e]
     exact sI
   ·obtain rfl : r = p.rules.length:=by omega
    have e:=vaD_up p q sch j
    repeat' ((first|refine nI ?_|refine aI ?_|refine tI ?_|refine fI ?_|fail);conv=>whnf)
    refine ⟨j + 1, ?_, by omega, by dsimp only; omega⟩
    dsimp only
    rw [e]
    exact sI
  ·obtain rfl : j = sch.length + 1:=by omega
   rw [vaD_all]
   exact ⟨rfl, rfl⟩
end Go.Proofs.YtnjggjhkfncnlaaGreatDoor
