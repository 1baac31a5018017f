import Derived.Test.YtfoplfpbjajljaaGreatDoorZ1
import Derived.Test.YtfoplfpbjajljaaGreatDoorFzCa
set_option linter.unusedVariables false
set_option linter.unusedSimpArgs false
namespace Go.Proofs.YtfoplfpbjajljaaGreatDoor
set_option maxRecDepth 100000
set_option maxHeartbeats 32000000
theorem copyIntsOwn (a : List Int) (hl : a.length ≤ 1000000) : Spec Tryz.prog 151 [.sl 0 encI a] (Mem.ofL []) (fun u M => u = .row 5 a.length 1 ∧ M 5 = some (.row 3 0 encI a)) := by
 refine Spec.intro tt_ok mx_ok [] Tryz.func151 rfl (by decide) ?_
 conv => whnf
 refine bldI 0 encI [] rfl ?_
 conv => whnf
 refine appI a rfl (by simp only [List.length_nil]; omega) ?_
 conv => whnf
 exact ⟨by rw [Nat.zero_add]; rfl, rfl⟩
theorem copyRowOwn (r : Row) (hl : r.coef.length ≤ 1000000) : Spec Tryz.prog 137 [.agg (encRw r)] (Mem.ofL []) (fun u M => u = .agg [.row 300 r.coef.length 1, .int .i64 r.const] ∧ M 300 = some (.row 3 0 encI r.coef)) := by
 have hnews : ∀ {M : Mem} {K : AV → Mem → Prop}, freshB [] [(300, .old 5)] M = true → K (.row 300 r.coef.length 1) (overM [(300, .row 3 0 encI r.coef)] M) → Spec Tryz.prog 151 [.sl 0 encI r.coef] M K := fun {M K} hf hk =>
  Spec.news 400 [(300, .old 5)] [(300, .row 3 0 encI r.coef)] (.row 300 r.coef.length 1) (copyIntsOwn r.coef hl) (auto_) (by rw [Bool.and_eq_true]; exact ⟨rfl, hf⟩) (by rintro u M' ⟨rfl, e⟩; refine ⟨⟨?_, trivial⟩, auto_⟩; show blkR _ _ (M' 5) _; rw [e]; rfl) hk
 refine Spec.intro tt_ok mx_ok [] Tryz.func137 rfl (by decide) ?_
 conv => whnf
 refine boxP rfl ?_
 conv => whnf
 apply once6
 case k =>
  intro o1 o2 o3 o4 o5 o6
  refine drawCY [0, 1, 3, 4] (by decide +kernel) ?_
  conv => whnf
  repeat' first
   |exact True.intro
   |(refine And.intro ?_ ?_ <;> conv => whnf)
   |(refine hnews rfl ?_; conv => whnf)
   |with_reducible exact o1
   |with_reducible exact o2
   |with_reducible exact o3
   |with_reducible exact o4
   |with_reducible exact o5
   |with_reducible exact o6
   |fail
 all_goals try first
  |exact True.intro
  |exact True
 all_goals rfl
theorem copySystemOwn (s : LSys) (hs : sysE s = 0) : Spec Tryz.prog 100 [.agg (encSy s)] (Mem.ofL []) (fun u M => u = .agg [.int .i64 s.vars, .row 204 s.rows.length 2] ∧ ∃ lab, SysS M s.vars.toNat s.rows lab ∧ ∀ k, k < s.rows.length → 400 ≤ lab k) := by
 obtain ⟨a1, a2, a3, a4⟩ := sysE_ok hs
 obtain ⟨n, hn⟩ : ∃ n, n = s.vars.toNat := ⟨_, rfl⟩
 rw [← hn]
 refine Spec.intro tt_ok mx_ok [] Tryz.func100 rfl (by decide) ?_
 conv => whnf
 refine boxP rfl ?_
 conv => whnf
 refine WPc.loopM tt_ok mx_ok (fun i : Nat => i ≤ s.rows.length) (fun i => [(4, .int .i64 (i : Int))]) (fun i => smM s.vars n s.rows i) (fun i => s.rows.length - i) 0 (Nat.zero_le _) ?_
 conv => whnf
 refine ⟨?_, ?_⟩
 ·show Sub _ _ _ _ _
  exact sm_ini (auto_) (auto_)
 rintro i hi
 by_cases hlt : i < s.rows.length
 ·refine codeFR ?_
  conv => whnf
  refine tI ?_
  conv => whnf
  have hw := a2 i hlt
  have hcl := copyRowOwn (s.rows.getD i row0) (by omega)
  have hnews : ∀ {M : Mem} {K : AV → Mem → Prop}, freshB [] [(300, .old 300)] M = true → K (.agg [.row 300 (s.rows.getD i row0).coef.length 1, .int .i64 (s.rows.getD i row0).const]) (overM [(300, .row 3 0 encI (s.rows.getD i row0).coef)] M) → Spec Tryz.prog 137 [.agg (encRw (s.rows.getD i row0))] M K := fun {M K} hf hk =>
   Spec.news 400 [(300, .old 300)] [(300, .row 3 0 encI (s.rows.getD i row0).coef)] (.agg [.row 300 (s.rows.getD i row0).coef.length 1, .int .i64 (s.rows.getD i row0).const]) hcl (auto_) (by rw [Bool.and_eq_true]; exact ⟨rfl, hf⟩) (by rintro u M' ⟨rfl, e⟩; refine ⟨⟨?_, trivial⟩, auto_⟩; show blkR _ _ (M' 300) _; rw [e]; rfl) hk
  apply once6
  case k =>
   intro o1 o2 o3 o4 o5 o6
   refine drawCY [0, 2, 3, 4, 6, 10] (by decide +kernel) ?_
   conv => whnf
   repeat' first
    |exact True.intro
    |(clear o1 o2 o3 o4 o5 o6; omega)
    |(refine And.intro ?_ ?_ <;> conv => whnf)
    |(clear o1 o2 o3 o4 o5 o6; show (i + 1) * 32 ≤ 140737488355328; omega)
    |(refine hnews rfl ?_; conv => whnf)
    |(refine needI ?_ ?_; rotate_left; (try rw [tN]); conv => whnf)
    |with_reducible exact o1
    |with_reducible exact o2
    |with_reducible exact o3
    |with_reducible exact o4
    |with_reducible exact o5
    |with_reducible exact o6
    |fail
  all_goals try first
   |exact True.intro
   |exact True
  all_goals
   repeat' ((first|refine nI ?_|refine aI ?_|refine arU trivial (by omega) ?_|refine arB trivial (by omega) ?_|refine dI ?_|refine dR ?_|refine dP ?_|refine boxP rfl ?_|refine pI _ rfl ?_|refine rowSetI _ rfl ?_|refine tI ?_|refine fI ?_|refine cmpI (fun _ => ?_) (fun _ => ?_)) <;> conv => whnf)
   refine ⟨i + 1, ?_, by omega, by dsimp only; omega⟩
   dsimp only
   refine sm_next 24 (by decide) (by omega) rfl (auto_) ⟨_, rfl, fun k hk => ?_⟩ (fun k hk => ?_) (auto_)
   ·unfold labS
    cases hb : Nat.blt k i with
    |true => rfl
    |false =>
     have e : k = i := by
      have : ¬ k < i := fun h => by
       have h2 : Nat.blt k i = true := by simp only [Nat.blt, Nat.ble_eq]; omega
       rw [h2] at hb; cases hb
      omega
     subst e
     have e2 : (s.rows.getD k row0).coef.length = n := by omega
     show [AV.row 300 (s.rows.getD k row0).coef.length 1, AV.int .i64 (s.rows.getD k row0).const] = _
     rw [e2]
     rfl
   ·by_cases e : k < i
    ·rw [labS_lt e]
     have e3 := over_row (L := smL s.vars n s.rows i) (ti := 3) (p := 400) (m := i) (a := []) (c := rwC s.rows) (k := k) trivial e (sm_keys (by show 400 ≤ 400 + k; omega) (by show 400 + k < 9000; omega))
     have e4 : smM s.vars n s.rows i (400 + k) = some (.row 3 0 encI (rwC s.rows k)) := e3
     rw [overM_one]
     repeat rw [Mem.set_ne _ _ (by omega)]
     exact e4
    ·rw [labS_ge e]
     obtain rfl : k = i := by omega
     rfl
 ·obtain rfl : i = s.rows.length := by omega
  refine codeFR ?_
  conv => whnf
  refine fI ?_
  conv => whnf
  refine ⟨rfl, lbF 400 [], ⟨⟨_, rfl, fun k _ => rfl⟩, fun k hk => ?_, fun k k' hk hk' h => Nat.add_left_cancel h, fun k hk => ?_⟩, fun k hk => Nat.le_add_right _ _⟩
  ·have e3 := over_row (L := smL s.vars n s.rows s.rows.length) (ti := 3) (p := 400) (m := s.rows.length) (a := []) (c := rwC s.rows) (k := k) trivial hk (sm_keys (by show 400 ≤ 400 + k; omega) (by show 400 + k < 9000; omega))
   have e4 : smM s.vars n s.rows s.rows.length (400 + k) = some (.row 3 0 encI (rwC s.rows k)) := e3
   show _ = some (Blk.row 3 0 encI (rwC s.rows k))
   rw [← e4]
   exact Mem.set_ne _ _ (by show 400 + k ≠ 2; omega)
  ·show 400 + k ≠ 204
   omega
theorem sys_agg {S F : Store} {ρ : Env} {M : Mem} {w : World} {n m : Nat} {s : LSys} {lab : Nat → Nat} (h : SysS M n s.rows lab) (hM : RepM S F ρ M w) {vs : List Value} (hv : RVs S ρ vs [.agg [.int .i64 s.vars, .row 204 m 2]]) :
  RPs (lendS S ρ M w) vs [.agg (encSy s)] := by
 obtain ⟨g, hg1, hg2⟩ := h.hdr
 obtain ⟨v1, vs1, rfl, h1, h2⟩ := hv.cons_inv
 have e4 := h2.nil_inv
 subst e4
 obtain ⟨cs, rfl, hc⟩ := h1.agg_inv
 obtain ⟨a1, as1, f1, k1, k2⟩ := hc.cons_inv
 obtain ⟨a2, as2, f2, k3, k4⟩ := k2.cons_inv
 have f4 := k4.nil_inv
 have hsl := lend_sys hM hg1 hg2 h.row k3
 have := RPs.cons (S := lendS S ρ M w) (show RP _ a1 (.int .i64 s.vars) by rw [k1.int_inv]; exact .int _ _) (RPs.cons hsl (RPs.nil _))
 rw [f2, f4] at f1
 rw [← f1] at this
 have h5 := persN_ok (ρ := fun _ => none) 5 rfl (RV.agg_mk (this.rv (fun _ => none)))
 have h6 : RP (lendS S ρ M w) (.agg cs) (.agg [.int .i64 s.vars, .sl row0 encRw s.rows]) := by simpa using h5
 exact RPs.cons h6 (RPs.nil _)
theorem okS_sub {s : LSys} {v : Nat} {a : Int} (h : sysE s = 0) : okS (subS s v a) := by
 obtain ⟨a1, a2, a3, a4⟩ := sysE_ok h
 refine ⟨by rw [subS_len]; omega, fun j hj => ?_⟩
 rw [subS_len] at hj
 rw [subS_get hj]
 have := a2 j hj
 simp only [subR, List.length_set]
 omega
theorem SubstituteRO (s : LSys) (v a : Int) (hs : okS s) : Spec Tryz.prog 55 [.agg (encSy s), .int .i64 v, .int .i64 a] (Mem.ofL []) (sbR s v a) := by
 refine Spec.intro tt_ok mx_ok [] Tryz.func55 rfl (by decide) ?_
 conv => whnf
 refine boxP rfl ?_
 conv => whnf
 (refine oP (ValidateR s hs) ?_; conv => whnf)
 refine cmpI ?_ ?_ <;> (intro h; conv => whnf)
 ·exact .inr ⟨by rw [subE_1 h]; exact h, by rw [subE_1 h]; rfl⟩
 have h0 : sysE s = 0 := Classical.not_not.1 h
 obtain ⟨a1, a2, a3, a4⟩ := sysE_ok h0
 have no1 : (v < 0 ∨ s.vars ≤ v ∨ a < 0 ∨ 1048576 < a) → ∀ M, sbR s v a (.tup [.agg [.int .i64 0, .nilsl], .int .i64 1]) M := fun h2 M => .inr ⟨by rw [subE_2 h0 h2]; decide, by rw [subE_2 h0 h2]⟩
 refine aI ?_
 conv => whnf
 refine dC (withinR1 v 0 (s.vars - 1)) (fun _ => ?_) (fun _ => ?_) <;> (conv => whnf)
 case refine_2 => rename_i h1; exact no1 (by omega) _
 rename_i h1
 refine dC (withinR1 a 0 1048576) (fun _ => ?_) (fun _ => ?_) <;> (conv => whnf)
 case refine_2 => rename_i h2; exact no1 (by omega) _
 rename_i h2
 obtain ⟨n, hn⟩ : ∃ n, n = s.vars.toNat := ⟨_, rfl⟩
 have hso := copySystemOwn s h0
 rw [← hn] at hso
 refine Spec.callSys hso (TellL.by_ (lm := []) 400 (fun k y h => by cases h) (auto_)) (fun ℓ hℓ => ?_) ?_
 ·rw [Mem.set_ne _ _ (by omega)]
  rfl
 conv => whnf
 refine WPc.loopM tt_ok mx_ok (fun i : Nat => i ≤ s.rows.length) (fun i => [(10, .int .i64 (i : Int))]) (fun i => fbM s.vars n s.rows.length (sbK s.rows v.toNat a i) (sbC s.rows v.toNat i) []) (fun i => s.rows.length - i) 0 (Nat.zero_le _) ?_
 conv => whnf
 refine ⟨?_, ?_⟩
 ·show Sub _ _ _ _ _
  rw [sbK_zero, sbC_zero]
  refine fb_sub lmB (lbF 400 []) (focS0 _) (auto_) ⟨_, rfl, fun k _ => rfl⟩ (fun k hk => ?_) (fun k k' _ _ h => Nat.add_left_cancel h) (fun k hk => (by show 300 ≤ 400 + k; omega)) rfl (fun k y h => famF_lm k y h) (auto_)
  have e3 := over_row (L := [(204, syH n s)]) (ti := 3) (p := 400) (m := s.rows.length) (a := []) (c := rwC s.rows) (k := k) trivial hk (fun q hq => by
   rw [List.mem_singleton] at hq
   subst hq
   show 204 ≠ 400 + k
   omega)
  rw [Mem.set_ne _ _ (by show 400 + k ≠ 9; omega), Mem.set_ne _ _ (by show 400 + k ≠ 9; omega)]
  unfold overN
  rw [e3]
 rintro i hi
 by_cases hlt : i < s.rows.length
 ·have f1 := focS1 hlt
  have lr : lbF 400 [(301, i)] i = 301 := by rw [lbF, Nat.beq_refl]
  have hwi := a2 i hlt
  have b1 : numB ((sbC s.rows v.toNat i i).getD v.toNat 0) := by rw [sbC_at]; exact (a4 i hlt).1 v.toNat (by omega)
  have b2 := mul_36 b1 (show 0 ≤ a ∧ a ≤ 1048576 by omega)
  have b3 : numB (sbK s.rows v.toNat a i i) := by rw [sbK_at]; exact (a4 i hlt).2
  have b4 := b3
  unfold numB at b4
  refine codeFT (fb_sub (a := [(301, i)]) lmB (lbF 400 []) f1 (auto_) ⟨_, rfl, fun k _ => rfl⟩ (fun k hk => fb_row (focS0 _) hk) (fun k k' _ _ h => Nat.add_left_cancel h) (fun k hk => (by show 300 ≤ 400 + k; omega)) rfl (fun k y h => famF_lm k y h) (auto_)) ?_
  conv => whnf
  refine tI ?_
  conv => whnf
  refine drawL 23 (by decide +kernel) ?_
  conv => whnf
  refine nI ?_
  rw [tN]
  conv => whnf
  refine nI ?_
  rw [tN]
  conv => whnf
  refine needW (u' := .rel 301 v.toNat 0) (by omega) (by rw [lr]) ?_
  conv => whnf
  refine aI ?_
  conv => whnf
  refine aI ?_
  conv => whnf
  refine nI ?_
  rw [tN]
  conv => whnf
  refine stopL_mem (fb_setH (K' := sbK s.rows v.toNat a (i + 1)) (fun k => ?_)) ?_
  ·by_cases e : k = i
   ·subst e
    rw [sbK_up, ← sbK_at s.rows v.toNat a k, ← sbC_at s.rows v.toNat k, Nat.beq_refl]
    rfl
   ·have hb : Nat.beq k i = false := beq_f e
    rw [hb, sbK_ne _ _ _ e]
  conv => whnf
  refine nI ?_
  rw [tN]
  conv => whnf
  refine needW (u' := .rel 301 v.toNat 0) (by omega) (by rw [lr]) ?_
  conv => whnf
  refine rowSetI _ rfl ?_
  conv => whnf
  repeat' ((first|refine nI ?_|refine aI ?_|refine arU trivial (by omega) ?_|refine arB trivial (by omega) ?_|refine dI ?_|refine dR ?_|refine dP ?_|refine boxP rfl ?_|refine pI _ rfl ?_|refine rowSetI _ rfl ?_|refine tI ?_|refine fI ?_|refine cmpI (fun _ => ?_) (fun _ => ?_)) <;> conv => whnf)
  refine ⟨i + 1, ?_, by omega, by dsimp only; omega⟩
  dsimp only
  refine fb_sub (a := []) lmB (lbF 400 [(301, i)]) (focS0 _) (auto_) ⟨_, rfl, fun k _ => rfl⟩ (fun k hk => ?_) (fun k k' h h' e => lbF_inj f1.1 h h' e) (fun k hk => f1.big k) rfl (fun k y h => famF_lm k y h) (auto_)
  rw [sbC_up]
  by_cases e : k = i
  ·subst e
   rw [lr, Mem.set_eq, if_pos rfl]
  ·rw [if_neg e, Mem.set_ne _ _ (fun h => e (lbF_inj f1.1 hk hlt (by rw [h, lr])))]
   exact fb_row f1 hk
 ·obtain rfl : i = s.rows.length := by omega
  have hiff : sysE (subS s v.toNat a) = 0 ↔ ∀ j, j < s.rows.length → numB (subR v.toNat a (s.rows.getD j row0)).const := by
   constructor
   ·intro h j hj
    have h5 := (sysE_ok h).2.2.2 j (by rw [subS_len]; exact hj)
    rw [subS_get hj] at h5
    exact h5.2
   ·intro h
    exact subE_valid (subE_0 h0 (by omega) h)
  refine codeFR ?_
  conv => whnf
  refine fI ?_
  conv => whnf
  refine Spec.borrowG (ValidateR (subS s v.toNat a) (okS_sub h0)) (fun S F ρ w vs hM hv => ?_) (by rintro _ rfl; rfl) ?_
  ·exact sys_agg (s := subS s v.toNat a) (sys_done (w := s.vars) (n := n) fun x hx => rfl) hM hv
  rintro _ rfl
  conv => whnf
  refine cmpI ?_ ?_ <;> (intro h5; conv => whnf)
  ·have e4 : subE s v a = 4 := subE_4 h0 (by omega) (fun hh => h5 (hiff.2 hh))
   exact .inr ⟨by rw [e4]; decide, by rw [e4]; rfl⟩
  ·refine .inl ⟨subE_0 h0 (by omega) (hiff.1 (Classical.not_not.1 h5)), rfl, lbF 400 [], ?_⟩
   rw [← hn]
   exact sys_done (w := s.vars) fun x hx => Mem.set_ne _ _ hx
theorem SubstituteR (s : LSys) (v a : Int) (hs : okS s) : PSpec Tryz.prog 55 [.agg (encSy s), .int .i64 v, .int .i64 a] (fun u => u = .tup [.agg (if subE s v a = 0 then encSy (subS s v.toNat a) else [.int .i64 0, .nilsl]), .int .i64 (subE s v a)]) :=
 PSpec.of_own (SubstituteRO s v a hs) fun u M' hR => by
  rcases hR with ⟨h0, rfl, lab, hS⟩ | ⟨h0, rfl⟩
  ·refine ⟨_, rfl, fun S F ρ w v' hM hv => ?_⟩
   rw [if_pos h0, h0]
   exact sys_own hS hM hv
  ·refine ⟨_, rfl, fun S F ρ w v' hM hv => ?_⟩
   rw [if_neg h0]
   exact (persN_ok (ρ := ρ) 5 rfl hv).mono (lendS_le (F := F) hM)
end Go.Proofs.YtfoplfpbjajljaaGreatDoor
