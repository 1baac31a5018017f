import Derived.Test.YtkanoljhphmdcaaGreatDoorV1
import Derived.Test.YtkanoljhphmdcaaGreatDoorFwA
import Derived.Test.YtkanoljhphmdcaaGreatDoorP1
import Derived.Test.YtkanoljhphmdcaaGreatDoorFtE
set_option linter.unusedVariables false
set_option linter.unusedSimpArgs false
namespace Go.Proofs.YtkanoljhphmdcaaGreatDoor
set_option maxRecDepth 100000
set_option maxHeartbeats 16000000
def kO (p : Pro) (a : Int) : Int:=(p.rules.getD a.toNat rul0).src
theorem kO_nat (p : Pro) (r : Nat) : kO p (r : Int) = (p.rules.getD r rul0).src:=by unfold kO; rw [tN]
theorem orderClosF (p : Pro) (q : Prp) (a b : Int) (ha : 0 ≤ a ∧ a < p.rules.length) (hb : 0 ≤ b ∧ b < p.rules.length) : PSpec Tryz.prog 49 [.int .i64 a, .int .i64 b, .pd [.pd (famC p q)]] (fun u=>u = .int .i64 (cmpZ (kO p a) (kO p b))):=by
 refine PSpec.intro tt_ok mx_ok Tryz.func49 rfl (by decide) ?_; (conv=>whnf)
 refine dI ?_
 conv=>whnf
 refine nI ?_
 conv=>whnf
 refine nI ?_
 conv=>whnf
 (refine oC (cmpCompare _ _) ?_; conv=>whnf)
 exact ⟨rfl, rfl⟩
def resL (i n : Nat) : List Int:=((List.range n).drop i).map fun r : Nat=>(r : Int)
theorem resL_up {i n : Nat} (h : i < n) : resL i n = (i : Int) :: resL (i + 1) n:=by
 unfold resL
 rw [List.drop_eq_getElem_cons (by simpa using h)]
 simp
theorem resL_end (n : Nat) : resL n n = []:=by unfold resL; rw [List.drop_of_length_le (by simp)]; rfl
theorem resL_len (i n : Nat) : (resL i n).length = n - i:=by unfold resL; simp
def fnO (p : Pro) (q : Prp) : AV:=.fn 49 [.pd [.pd (famC p q)]]
theorem insSortF (p : Pro) (q : Prp) (hn : p.rules.length ≤ 8) : Spec Tryz.prog 134 [.row 8000 p.rules.length 1, .int .i64 0, .int .i64 (p.rules.length : Int), fnO p q] (Mem.ofL [(8000, rowN (resL 0 p.rules.length))])
  (fun u M=>u = .tup [] ∧ ∃ L, Ins (kO p) p.rules.length L ∧ M = Mem.ofL [(8000, rowN L)]):=by
 by_cases h0 : p.rules.length = 0
 ·refine Spec.norm 400 (R:=fun u M=>u = .tup [] ∧ memR (idL [(8000, rowN (resL 0 p.rules.length))]) 400 M [(8000, rowN (resL 0 p.rules.length))]) ?_ ?_
  ·refine Spec.intro tt_ok mx_ok [(8000, rowN (resL 0 p.rules.length))] Tryz.func134 rfl (by decide) ?_
   conv=>whnf
   refine aI ?_
   conv=>whnf
   refine WPc.loopF tt_ok mx_ok (fun _ : Unit=>True) (fun _=>[(8, .int .i64 1)]) (fun _=>[(8000, rowN (resL 0 p.rules.length))]) (fun _=>0) () trivial ?_; conv=>whnf
   refine ⟨sI, ?_⟩
   rintro _ _
   conv=>whnf
   refine fI ?_
   conv=>whnf
   exact ⟨rfl, (auto_)⟩
  ·rintro u M ⟨rfl, hM⟩
   have e : resL 0 p.rules.length = []:=by rw [h0]; rfl
   refine ⟨_, .tup [], rfl, hM, trivial, rfl, resL 0 p.rules.length, ⟨by rw [e, h0]; rfl, by rw [e]; simp, fun x=>?_⟩, rfl⟩
   rw [e, h0]
   simp
 refine Spec.norm 400 (R:=fun u M=>u = .tup [] ∧ ∃ L, Ins (kO p) p.rules.length L ∧ memR (idL [(8000, rowN L)]) 400 M [(8000, rowN L)]) ?_ ?_
 ·refine Spec.intro tt_ok mx_ok [(8000, rowN (resL 0 p.rules.length))] Tryz.func134 rfl (by decide) ?_
  conv=>whnf
  refine aI ?_
  conv=>whnf
  refine WPc.loopF tt_ok mx_ok (fun x : Nat × List Int=>1 ≤ x.1 ∧ x.1 ≤ p.rules.length ∧ Ins (kO p) x.1 x.2) (fun x=>[(8, .int .i64 (x.1 : Int))]) (fun x=>[(8000, rowN (x.2 ++ resL x.1 p.rules.length))]) (fun x=>p.rules.length - x.1) (1, [0]) ⟨by dsimp only; omega, by dsimp only; omega, Ins.one⟩ ?_; conv=>whnf
  refine ⟨?_, ?_⟩
  ·rw [show ([0] : List Int) ++ resL 1 p.rules.length = resL 0 p.rules.length by rw [resL_up (i:=0) (by omega)]; rfl]
   exact sI
  rintro ⟨i, L⟩ ⟨hi1, hi2, hI⟩
  dsimp only at hi1 hi2 hI ⊢
  have hl:=hI.len
  conv=>whnf
  refine cmpI ?_ ?_ <;> (intro h1; conv=>whnf)
  ·have hlt : i < p.rules.length:=by omega
   have e1:=resL_up hlt
   have hR:=resL_len (i + 1) p.rules.length
   generalize hRe : resL (i + 1) p.rules.length = R at e1 hR
   have hge : ∀ j, j < i → 0 ≤ L.getD j 0 ∧ L.getD j 0 < p.rules.length:=fun j hj=>by
    obtain ⟨r, hr, e⟩:=(hI.mem (L.getD j 0)).1 (mem_getD _ (by omega))
    omega
   refine WPc.loopF tt_ok mx_ok (fun j : Nat=>j ≤ i ∧ ∀ x ∈ L.drop j, kO p i < kO p x) (fun j=>[(9, .int .i64 (j : Int))]) (fun j=>[(8000, rowN (insL L R i j))]) (fun j=>j) i ⟨Nat.le_refl _, fun x hx=>by rw [List.drop_of_length_le (by omega)] at hx; cases hx⟩ ?_; conv=>whnf
   refine ⟨?_, ?_⟩
   ·rw [e1, ← hl, ← insL_top]
    exact sI
   rintro j ⟨hj, ha⟩
   have hlen:=insL_len (L:=L) (R:=R) (i:=(i : Int)) (j:=j) (by omega)
   conv=>whnf
   refine dI ?_
   conv=>whnf
   refine cmpI ?_ ?_ <;> (intro h2; conv=>whnf)
   ·have hj0 : 0 < j:=by omega
    obtain ⟨m, rfl⟩ : ∃ m, j = m + 1:=⟨j - 1, by omega⟩
    have ga:=insL_at (L:=L) (R:=R) (i:=(i : Int)) (j:=m + 1) (by omega)
    have gb:=insL_below (L:=L) (R:=R) (i:=(i : Int)) (j:=m) (by omega)
    have gs:=insL_swap (L:=L) (R:=R) (i:=(i : Int)) (j:=m) (by omega)
    have hm:=hge m (by omega)
    refine nI ?_
    rw [tN]
    conv=>whnf
    refine aI ?_
    conv=>whnf
    refine nI ?_
    rw [show (((m + 1 : Nat) : Int) - 1).toNat = m by omega]
    conv=>whnf
    rw [ga, gb]
    (refine oC (orderClosF p q (i : Int) (L.getD m 0) (by omega) hm) ?_; conv=>whnf)
    refine cmpI ?_ ?_ <;> (intro h3; conv=>whnf)
    ·have hlt3 : kO p (i : Int) < kO p (L.getD m 0):=by
      unfold cmpZ at h3
      split at h3
      ·assumption
      ·split at h3 <;> omega
     refine dI ?_
     conv=>whnf
     repeat' ((first|refine nI ?_|refine aI ?_|refine tI ?_|refine fI ?_|fail);conv=>whnf)
     rw [tN, show (((m + 1 : Nat) : Int) - 1).toNat = m by omega]
     refine rowSetI ((insL L R (i : Int) (m + 1)).getD m 0) rfl ?_
     conv=>whnf
     repeat' ((first|refine nI ?_|refine aI ?_|refine tI ?_|refine fI ?_|fail);conv=>whnf)
     refine rowSetI ((insL L R (i : Int) (m + 1)).getD (m + 1) 0) rfl ?_
     conv=>whnf
     repeat' ((first|refine nI ?_|refine aI ?_|refine tI ?_|refine fI ?_|fail);conv=>whnf)
     refine ⟨m, ?_, ⟨by omega, fun x hx=>?_⟩, by dsimp only; omega⟩
     ·dsimp only
      rw [ga, gb, show (((m + 1 : Nat) : Int) - 1).toNat = m by omega, gs]
      exact sI
     ·rw [List.drop_eq_getElem_cons (by omega), List.mem_cons] at hx
      rcases hx with rfl | hx
      ·rw [← getD_elem 0 (by omega)]; exact hlt3
      ·exact ha x hx
    ·have hge3 : ¬ kO p (i : Int) < kO p (L.getD m 0):=by
      unfold cmpZ at h3
      split at h3
      ·omega
      ·assumption
     repeat' ((first|refine nI ?_|refine aI ?_|refine tI ?_|refine fI ?_|fail);conv=>whnf)
     refine ⟨(i + 1, L.take (m + 1) ++ [(i : Int)] ++ L.drop (m + 1)), ?_, ⟨by dsimp only; omega, by dsimp only; omega, hI.next hj ha (.inr (by rw [Nat.add_sub_cancel]; omega))⟩, by dsimp only; omega⟩
     dsimp only
     rw [hRe]
     exact sI
   ·obtain rfl : j = 0:=by omega
    repeat' ((first|refine nI ?_|refine aI ?_|refine tI ?_|refine fI ?_|fail);conv=>whnf)
    refine ⟨(i + 1, L.take 0 ++ [(i : Int)] ++ L.drop 0), ?_, ⟨by dsimp only; omega, by dsimp only; omega, hI.next hj ha (.inl rfl)⟩, by dsimp only; omega⟩
    dsimp only
    rw [hRe]
    exact sI
  ·obtain rfl : i = p.rules.length:=by omega
   rw [resL_end, List.append_nil]
   exact ⟨rfl, L, hI, (auto_)⟩
 ·rintro u M ⟨rfl, L, hI, hM⟩
  exact ⟨_, .tup [], rfl, hM, trivial, rfl, L, hI, rfl⟩
def soR (p : Pro) : AV → Mem → Prop:=fun u M=>u = .tup [] ∧ ∃ L, Ins (kO p) p.rules.length L ∧ M = Mem.ofL [(8000, rowN L)]
theorem stableF (p : Pro) (q : Prp) (hn : p.rules.length ≤ 8) : Spec Tryz.prog 88 [.row 8000 p.rules.length 1, .int .i64 (p.rules.length : Int), fnO p q] (Mem.ofL [(8000, rowN (resL 0 p.rules.length))]) (soR p):=by
 refine Spec.norm 400 (R:=fun u M=>u = .tup [] ∧ ∃ L, Ins (kO p) p.rules.length L ∧ memR (idL [(8000, rowN L)]) 400 M [(8000, rowN L)]) ?_ ?_
 ·refine Spec.intro tt_ok mx_ok [(8000, rowN (resL 0 p.rules.length))] Tryz.func88 rfl (by decide) ?_
  conv=>whnf
  refine WPc.loopF tt_ok mx_ok (fun _ : Unit=>True) (fun _=>[(7, .int .i64 0), (8, .int .i64 20)]) (fun _=>[(8000, rowN (resL 0 p.rules.length))]) (fun _=>0) () trivial ?_; conv=>whnf
  refine ⟨sI, ?_⟩
  rintro _ _
  conv=>whnf
  refine fI ?_
  conv=>whnf
  refine Spec.call [(8000, .old 8000)] [(8000, rowN (resL 0 p.rules.length))] 400 rfl (auto_) (auto_) (insSortF p q hn) ?_
  rintro u M' ⟨rfl, L, hI, rfl⟩
  refine ⟨[(8000, .old 8000)], [(8000, rowN L)], .tup [], rfl, (auto_), trivial, ?_⟩
  conv=>whnf
  refine WPc.loopF tt_ok mx_ok (fun _ : Unit=>True) (fun _=>[(6, .int .i64 20)]) (fun _=>[(8000, rowN L)]) (fun _=>0) () trivial ?_; conv=>whnf
  refine ⟨sI, ?_⟩
  rintro _ _
  conv=>whnf
  refine fI ?_
  conv=>whnf
  exact ⟨rfl, L, hI, (auto_)⟩
 ·rintro u M ⟨rfl, L, hI, hM⟩
  exact ⟨_, .tup [], rfl, hM, trivial, rfl, L, hI, rfl⟩
theorem sortStableF (p : Pro) (q : Prp) (hn : p.rules.length ≤ 8) : Spec Tryz.prog 48 [.row 8000 p.rules.length 1, fnO p q] (Mem.ofL [(8000, rowN (resL 0 p.rules.length))]) (soR p):=by
 refine Spec.norm 400 (R:=fun u M=>u = .tup [] ∧ ∃ L, Ins (kO p) p.rules.length L ∧ memR (idL [(8000, rowN L)]) 400 M [(8000, rowN L)]) ?_ ?_
 ·refine Spec.intro tt_ok mx_ok [(8000, rowN (resL 0 p.rules.length))] Tryz.func48 rfl (by decide) ?_
  conv=>whnf
  refine Spec.call [(8000, .old 8000)] [(8000, rowN (resL 0 p.rules.length))] 400 rfl (auto_) (auto_) (stableF p q hn) ?_
  rintro u M' ⟨rfl, L, hI, rfl⟩
  refine ⟨[(8000, .old 8000)], [(8000, rowN L)], .tup [], rfl, (auto_), trivial, ?_⟩
  conv=>whnf
  exact ⟨rfl, L, hI, (auto_)⟩
 ·rintro u M ⟨rfl, L, hI, hM⟩
  exact ⟨_, .tup [], rfl, hM, trivial, rfl, L, hI, rfl⟩
def filL (k n : Nat) : List Int:=((List.range k).map fun r : Nat=>(r : Int)) ++ List.replicate (n - k) 0
theorem filL_zero (n : Nat) : filL 0 n = List.replicate n 0:=by simp [filL]
theorem filL_all (n : Nat) : filL n n = resL 0 n:=by simp [filL, resL]
theorem filL_len {k n : Nat} (h : k ≤ n) : (filL k n).length = n:=by simp [filL]; omega
theorem filL_up {k n : Nat} (h : k < n) : (filL k n).set k (k : Int) = filL (k + 1) n:=by
 unfold filL
 rw [List.set_append_right _ _ (by simp), List.length_map, List.length_range, Nat.sub_self, show n - k = (n - (k + 1)) + 1 by omega, List.replicate_succ, List.set_cons_zero, List.range_succ, List.map_append, List.append_assoc]
 rfl
theorem src_rng {p : Pro} (hv : validE p = 0) (r : Nat) (hr : r < p.rules.length) : 0 ≤ kO p (r : Int) ∧ kO p (r : Int) < p.states.length:=by
 rw [kO_nat]
 obtain ⟨_, _, _, h4, _, _⟩:=rule_parts ((vld_of hv).rul r hr)
 exact h4
theorem orderF (p : Pro) (q : Prp) (hv : validE p = 0) : PSpec Tryz.prog 20 [.pd (famC p q)] (fun u=>u = .sl 0 encI (ordL p.rules p.states.length)):=by
 have hn:=(vld_of hv).len
 refine PSpec.intro tt_ok mx_ok Tryz.func20 rfl (by decide) ?_; (conv=>whnf)
 refine boxP rfl ?_
 conv=>whnf
 refine mkI 0 encI 0 rfl (by dsimp only; omega) ?_
 rw [tN]
 conv=>whnf
 refine WPc.loopF tt_ok mx_ok (fun k : Nat=>k ≤ p.rules.length) (fun k=>[(14, .int .i64 (k : Int))]) (fun k=>[(11, rowN (filL k p.rules.length))]) (fun k=>p.rules.length - k) 0 (Nat.zero_le _) ?_; conv=>whnf
 refine ⟨by rw [filL_zero]; exact sI, ?_⟩
 rintro k hk
 have hl:=filL_len hk
 conv=>whnf
 refine cmpI ?_ ?_ <;> (intro h1; conv=>whnf)
 ·have hup:=filL_up (show k < p.rules.length by omega)
  repeat' ((first|refine nI ?_|refine aI ?_|refine tI ?_|refine fI ?_|fail);conv=>whnf)
  rw [tN]
  refine rowSetI (k : Int) rfl ?_
  conv=>whnf
  repeat' ((first|refine nI ?_|refine aI ?_|refine tI ?_|refine fI ?_|fail);conv=>whnf)
  refine ⟨k + 1, ?_, by omega, by dsimp only; omega⟩
  dsimp only
  rw [← hup]
  exact sI
 ·obtain rfl : k = p.rules.length:=by omega
  rw [filL_all]
  refine Spec.call [(8000, .old 11)] [(8000, rowN (resL 0 p.rules.length))] 400 rfl (auto_) (auto_) (sortStableF p q (by omega)) ?_
  rintro u M' ⟨rfl, L, hI, rfl⟩
  refine ⟨[(11, .old 8000)], [(11, rowN L)], .tup [], rfl, (auto_), trivial, ?_⟩
  rw [hI.ext (ns:=p.states.length) (src_rng hv)]
  conv=>whnf
  exact ⟨rfl, rfl⟩
def ordA (p : Pro) (q : Prp) : AV:=if chkE p q ≠ 0 then .tup [.nilsl, .int .i64 (chkE p q)] else .tup [.sl 0 encI (ordL p.rules p.states.length), .int .i64 0]
theorem OrderF (p : Pro) (q : Prp) (hp : okP p) (hq : okQ q) : PSpec Tryz.prog 6 [.agg (encP p), .agg (encQ q)] (fun u=>u = ordA p q):=by
 have he:=ordA.eq_1 p q
 refine PSpec.intro tt_ok mx_ok Tryz.func6 rfl (by decide) ?_; (conv=>whnf)
 refine boxP rfl ?_
 conv=>whnf
 refine boxP rfl ?_
 conv=>whnf
 refine Spec.of_pure (n:=5) (loadF p q hp hq) (by rfl) ?_
 rintro _ rfl
 by_cases h : chkE p q = 0
 ·rw [if_neg (by omega)] at he
  rw [loadA_z h]
  conv=>whnf
  refine fI ?_
  conv=>whnf
  (refine oP (orderF p q (vlq_of (chk_prop h)).vld) ?_; conv=>whnf)
  exact ⟨he.symm, rfl⟩
 ·rw [if_pos h] at he
  rw [loadA_e rfl h]
  conv=>whnf
  refine cmpT h ?_
  conv=>whnf
  exact ⟨he.symm, rfl⟩
end Go.Proofs.YtkanoljhphmdcaaGreatDoor
