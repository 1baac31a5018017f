import Derived.Test.YtnjggjhkfncnlaaGreatDoorPjA
import Derived.Test.YtnjggjhkfncnlaaGreatDoorW1
import Derived.Test.YtnjggjhkfncnlaaGreatDoorX0
set_option linter.unusedVariables false
set_option linter.unusedSimpArgs false
namespace Go.Proofs.YtnjggjhkfncnlaaGreatDoor
set_option maxRecDepth 100000
set_option maxHeartbeats 16000000
theorem drawPZ {P : Program} {tt : TT} {ops : List Oper} {fr : List AV} {M : Mem} {K : List AV → Mem → Prop} (qs : List Nat) (hqs : qs.all (qOkP ops) = true) (h : ordsP P tt none ops qs K ops.length [] fr M) : drawK P tt ops fr M K :=
 drawZ (by rw [ordsP_eq (.inl rfl) hqs] at h; exact h)
noncomputable abbrev pcL (p : Pro) (q : Prp) (sch : List Int) (vars : List Vb) (co : Co) : List (Nat × Blk) :=
 [(220, .box 70 [.ptr 200 0]), (221, .box 24 [.row 230 vars.length 1]), (230, .row 3 0 encI (vars.map co))] ++ bdL p q sch vars []
def idC : LMap:=[(220, .old 220), (221, .old 221), (230, .old 230)] ++ idB
theorem countP (p : Pro) (q : Prp) (sch : List Int) (vars : List Vb) (co : Co) (hn : vars.Nodup) (hv : vars.length ≤ 1000000) (b : Bool) (k1 k2 seg idx kind : Int) (hkk : (if b then k1 else k2) = kind) (hk : k1 = 3 ∧ k2 = 4 ∨ k1 = 5 ∧ k2 = 6) (hin : (⟨kind, seg, idx⟩ : Vb) ∈ vars) (hb : cwB 1152921504606846976 co) :
  Spec Tryz.prog 22 [.bool b, .int .i64 k1, .int .i64 k2, .int .i64 seg, .int .i64 idx, .ptr 221 0, .ptr 220 0] (Mem.ofL (pcL p q sch vars co))
   (fun u M=>u = .tup [] ∧ M = Mem.ofL (pcL p q sch vars (addC co ⟨kind, seg, idx⟩ 1))):=by
 have hs : ∀ y, plN vars kind vars.length (seg, idx) = some y → ∃ m : Nat, y = m ∧ m < vars.length ∧ (vars.map co).set m ((vars.map co).getD m 0 + 1) = vars.map (addC co ⟨kind, seg, idx⟩ 1):=by
  intro y h
  obtain ⟨m, rfl, hm, e⟩:=plN_some h
  refine ⟨m, rfl, hm, ?_⟩
  rw [row_get co hm, row_add co 1 hn hm, e]
 have hno : plN vars kind vars.length (seg, idx) ≠ none:=fun h=>plN_notin h hin
 have hg : ∀ m, m < vars.length → -1152921504606846976 ≤ (vars.map co).getD m 0 ∧ (vars.map co).getD m 0 ≤ 1152921504606846976:=fun m hm=>by rw [row_get co hm]; exact hb _
 have hl : (vars.map co).length = vars.length:=List.length_map ..
 refine Spec.idn rfl (auto_) ?_
 generalize hA : vars.map co = A at hs hg hl
 generalize hB : vars.map (addC co ⟨kind, seg, idx⟩ 1) = B at hs
 unfold pcL
 rw [hA, hB]
 clear hA hB hb
 cases b <;> rcases hk with ⟨rfl, rfl⟩ | ⟨rfl, rfl⟩
 all_goals
  obtain rfl:=hkk
  refine Spec.intro tt_ok mx_ok ([(220, .box 70 [.ptr 200 0]), (221, .box 24 [.row 230 vars.length 1]), (230, .row 3 0 encI A)] ++ bdL p q sch vars []) Tryz.func22 rfl (by decide) ?_
  conv=>whnf
  refine drawPZ [2, 3, 4, 5, 7, 8, 9, 11, 13, 14] (by decide +kernel) ?_
  conv=>whnf
  repeat' first
   |exact True.intro
   |(refine And.intro ?_ ?_ <;> conv=>whnf)
   |(refine needI (by decide) ?_; conv=>whnf)
   |(refine lookI keyArr (seg, idx) rfl (fun y hy=>?_) (fun hy=>absurd hy hno); obtain ⟨m, rfl, hm, e⟩:=hs y hy; have h1:=hg m hm; subst e; conv=>whnf)
   |(refine nI ?_; conv=>whnf)
   |(refine arI trivial (by rw [tN]; omega) ?_; conv=>whnf)
   |(refine rowSetI (A.getD (m : Int).toNat 0 + 1) rfl ?_; conv=>whnf)
   |exact rfl
   |fail
end Go.Proofs.YtnjggjhkfncnlaaGreatDoor
