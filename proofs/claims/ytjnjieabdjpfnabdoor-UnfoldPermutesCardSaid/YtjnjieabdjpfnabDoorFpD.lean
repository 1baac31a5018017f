import Derived.Test.YtjnjieabdjpfnabDoorM9
import Derived.Test.YtjnjieabdjpfnabDoorRdV
set_option linter.unusedVariables false
set_option linter.unusedSimpArgs false
namespace Go.Proofs.YtjnjieabdjpfnabDoor
set_option maxRecDepth 100000
set_option maxHeartbeats 16000000
theorem otherF (i : Int) (a b : Nat) : PSpec Tryd.prog 17 [.int .i64 i, .int .i64 (a : Int), .int .i64 (b : Int)] (fun u => u = .int .i64 (swI a b i)) := by
 have he := swI.eq_1 a b i
 generalize swI a b i = r at he ⊢
 refine PSpec.intro tt_ok mx_ok Tryd.func17 rfl (by decide) ?_; (conv => whnf)
 refine cmpI ?_ ?_ <;> (intro h1; conv => whnf)
 ·rw [if_pos h1] at he
  exact ⟨he ▸ rfl, rfl⟩
 rw [if_neg h1] at he
 refine cmpI ?_ ?_ <;> (intro h2; conv => whnf)
 ·rw [if_pos h2] at he
  exact ⟨he ▸ rfl, rfl⟩
 ·rw [if_neg h2] at he
  exact ⟨he ▸ rfl, rfl⟩
theorem swappedF (c : Cfg) (a b : Nat) (hw : wideB c = false) (ha : a < c.states.length) (hb : b < c.states.length) : PSpec Tryd.prog 16 [.agg (encC c), .int .i64 (a : Int), .int .i64 (b : Int)] (fun u => u = .agg (encC (swC c a b))) := by
 have hc := wide_le hw
 refine PSpec.intro tt_ok mx_ok Tryd.func16 rfl (by decide) ?_; (conv => whnf)
 refine boxP rfl ?_
 conv => whnf
 refine Spec.news 400 (lmC 1001 1002 1003 1004) (memC c) (cfgL c) (copyL c hw) (auto_) rfl outC ?_
 conv => whnf
 refine dR ?_
 conv => whnf
 refine nI ?_
 conv => whnf
 refine nI ?_
 conv => whnf
 refine nI ?_
 conv => whnf
 refine rowSetI _ rfl ?_
 conv => whnf
 refine nI ?_
 conv => whnf
 refine rowSetI _ rfl ?_
 conv => whnf
 exact ⟨rfl, rfl⟩
theorem lawPermutes (p : Pro) (s : Siz) (c : Cfg) (x : Stp) (z : Swp) : PSpec Tryd.prog 5 [.agg (encAt p s c), .agg (encX x), .agg (encSw z)] (fun u => u = .bool true) := by
 refine PSpec.intro tt_ok mx_ok Tryd.func5 rfl (by decide) ?_; (conv => whnf)
 refine boxP rfl ?_
 conv => whnf
 refine boxP rfl ?_
 conv => whnf
 refine boxP rfl ?_
 conv => whnf
 refine dC (bigF p) (fun _ => ?_) (fun _ => ?_) <;> (conv => whnf)
 ·(refine oP (knownF) ?_; conv => whnf)
  exact ⟨rfl, rfl⟩
 rename_i hp
 have hW := wideF c
 cases hw : wideB c with
 |true =>
  rw [hw] at hW
  (refine oP (hW) ?_; conv => whnf)
  (refine oP (knownF) ?_; conv => whnf)
  exact ⟨rfl, rfl⟩
 |false =>
  rw [hw] at hW
  have hc := wide_le hw
  (refine oP (hW) ?_; conv => whnf)
  refine cmpI ?_ ?_ <;> (intro h0; conv => whnf)
  ·(refine oP (knownF) ?_; conv => whnf)
   exact ⟨rfl, rfl⟩
  (refine oP (ValidConfigF p s c hp hw) ?_; conv => whnf)
  refine cmpI ?_ ?_ <;> (intro h1; conv => whnf)
  ·(refine oP (knownF) ?_; conv => whnf)
   exact ⟨rfl, rfl⟩
  refine cmpI ?_ ?_ <;> (intro h2; conv => whnf)
  ·(refine oP (knownF) ?_; conv => whnf)
   exact ⟨rfl, rfl⟩
  have h := Rdy.of (s := s) hp hw (by omega)
  have h0' : p.topology = 1 := by omega
  have hcl : c.correct ≤ c.states.length := by
   have hv := h.vc
   have hf := h.sz
   rw [hv.cor, hv.len]
   unfold modN
   split <;> omega
  refine fI ?_
  conv => whnf
  have hu : ∀ v : Int, 0 ≤ IntKind.u64.wrap v := fun v => by
   have e : IntKind.u64.wrap v = v % 18446744073709551616 := by simp [IntKind.wrap, IntKind.signed, IntKind.bits]
   rw [e]; omega
  refine dI ?_
  conv => whnf
  refine arW trivial ?_
  conv => whnf
  refine arU trivial (by omega) ?_
  conv => whnf
  refine nI ?_
  have ha0 : 0 ≤ (IntKind.u64.wrap z.a).tmod c.correct := Int.tmod_nonneg _ (hu _)
  have ha1 : (IntKind.u64.wrap z.a).tmod c.correct < c.correct := Int.tmod_lt_of_pos _ (by omega)
  obtain ⟨a, hak⟩ : ∃ a : Nat, (IntKind.u64.wrap z.a).tmod c.correct = a := ⟨_, (Int.toNat_of_nonneg ha0).symm⟩
  rw [hak] at ha1 ⊢
  conv => whnf
  refine aI ?_
  conv => whnf
  refine arW trivial ?_
  conv => whnf
  refine arU trivial (by omega) ?_
  conv => whnf
  refine nI ?_
  have hb0 : 0 ≤ (IntKind.u64.wrap z.b).tmod c.correct := Int.tmod_nonneg _ (hu _)
  have hb1 : (IntKind.u64.wrap z.b).tmod c.correct < c.correct := Int.tmod_lt_of_pos _ (by omega)
  obtain ⟨b, hbk⟩ : ∃ b : Nat, (IntKind.u64.wrap z.b).tmod c.correct = b := ⟨_, (Int.toNat_of_nonneg hb0).symm⟩
  rw [hbk] at hb1 ⊢
  conv => whnf
  refine aI ?_
  conv => whnf
  have haL : a < c.states.length := by omega
  have hbL : b < c.states.length := by omega
  refine drawF (by decide +kernel) ?_
  conv => whnf
  refine callLP 5 (swappedF c a b hw haL hbL) rfl (auto_) (auto_) ?_
  conv => whnf
  (refine oP (otherF x.process a b) ?_; conv => whnf)
  (refine oP (otherF x.partner a b) ?_; conv => whnf)
  have hR2 := sw_rdy h haL hbL
  have hen := sw_en (x := x) h h0' haL hbL
  by_cases he : enB p s c x false
  case neg =>
   (refine oP (ApplyF_s p s c x hp hw (by omega) he) ?_; conv => whnf)
   (refine oP (ApplyF_s p s (swC c a b) (swX x a b) hp hR2.wide hR2.vcon (fun g => he (hen.1 g))) ?_; conv => whnf)
   refine fI ?_
   conv => whnf
   refine tI ?_
   conv => whnf
   (refine oP (knownF) ?_; conv => whnf)
   exact ⟨rfl, rfl⟩
  have hap := sw_ap (r := rulX p x) (x := x) ha1 hb1
  by_cases hk : apB c (rulX p x) x
  case neg =>
   (refine oP (ApplyF_l p s c x hp hw (by omega) he hk) ?_; conv => whnf)
   (refine oP (ApplyF_l p s (swC c a b) (swX x a b) hp hR2.wide hR2.vcon (hen.2 he) (fun g => hk (hap.1 g))) ?_; conv => whnf)
   refine fI ?_
   conv => whnf
   refine tI ?_
   conv => whnf
   (refine oP (knownF) ?_; conv => whnf)
   exact ⟨rfl, rfl⟩
  have hA := ApplyFP p s c x h he hk
  have hB := ApplyFP p s (swC c a b) (swX x a b) hR2 (hen.2 he) (hap.2 hk)
  have hq : rulX p (swX x a b) = rulX p x := rfl
  rw [hq, sw_apC ha1 hb1 hcl] at hB
  have hwa : wideB (apC c (rulX p x) x) = false := apC_wide hw
  have hla : (apC c (rulX p x) x).states.length = c.states.length := stN_len c _ x
  generalize apC c (rulX p x) x = d at hA hB hwa hla
  (refine oP (hA) ?_; conv => whnf)
  (refine oP (hB) ?_; conv => whnf)
  refine fI ?_
  conv => whnf
  refine fI ?_
  conv => whnf
  have hwd : wideB (swC d a b) = false := by
   have := hwa
   unfold wideB at this ⊢
   rw [show (swC d a b).states.length = d.states.length from swL_len _ _ _]
   exact this
  refine dI ?_
  conv => whnf
  refine tI ?_
  conv => whnf
  (refine oC (swappedF d a b hwa (by omega) (by omega)) ?_; conv => whnf)
  have hse : cmpC (swC d a b) (swC d a b) = 0 := cmpC_self _
  (refine oC (compareC (swC d a b) (swC d a b) hwd) ?_; conv => whnf)
  refine cmpT hse ?_
  conv => whnf
  (refine oC (knownF) ?_; conv => whnf)
  exact ⟨rfl, rfl⟩
end Go.Proofs.YtjnjieabdjpfnabDoor
