import Derived.Test.YtnjggjhkfncnlaaGreatDoorPjF
import Derived.Test.YtnjggjhkfncnlaaGreatDoorY1
set_option linter.unusedVariables false
set_option linter.unusedSimpArgs false
namespace Go.Proofs.YtnjggjhkfncnlaaGreatDoor
set_option maxRecDepth 100000
set_option maxHeartbeats 16000000
theorem pjA_len (p : Pro) (q : Prp) (s : Siz) (r : Rn) : (pjA p q s r).1.length ≤ 1000000 ∧ (pjA p q s r).2.1.length ≤ 1000000:=by
 unfold pjA
 by_cases h1 : lszE p q s ≠ 0
 ·rw [if_pos h1]; exact ⟨Nat.zero_le _, Nat.zero_le _⟩
 rw [if_neg h1]
 by_cases h2 : ¬ pjOk p q s r
 ·rw [if_pos h2]; exact ⟨Nat.zero_le _, Nat.zero_le _⟩
 rw [if_neg h2]
 have hk:=pj_ok (Classical.not_not.1 h1) (Classical.not_not.1 h2)
 have hl:=sch_len hk.sch
 have ht:=(vld_of (vlq_of hk.prp).vld).thr
 have hv:=varL_len hk.prp hk.sch
 dsimp only
 rw [List.length_map]
 omega
theorem lawProjects (p : Pro) (q : Prp) (hp : okP p) (hq : okQ q) (s : Siz) (r : Rn) (hc : okC r.start) (hl : r.steps.length ≤ 140737488355328) :
  PSpec Tryz.prog 3 [.agg (encPQ p q), .agg (encZ s), .agg (encRn r)] (fun u=>u = .bool true):=by
 have hs:=saneF
 have hF:=ProjectF p q s r hp hq hc hl
 have hR:=ProjectR p q s r hp hq hc hl
 have hN:=pjA_len p q s r
 generalize pjA p q s r = A at hF hR hN
 obtain ⟨a, x, e⟩:=A
 unfold pjV at hF hR
 dsimp only at hF hR hN
 have h1:=sameIntsP a hN.1
 have h2:=sameIntsP x hN.2
 refine PSpec.intro tt_ok mx_ok Tryz.func3 rfl (by decide) ?_; (conv=>whnf)
 refine boxP rfl ?_
 conv=>whnf
 refine boxP rfl ?_
 conv=>whnf
 refine boxP rfl ?_
 conv=>whnf
 apply once6
 case k =>
  intro o1 o2 o3 o4 o5 o6
  refine drawC [0, 1, 2, 3] (by decide +kernel) ?_
  conv=>whnf
  repeat' first
   |exact True.intro
   |(refine And.intro ?_ ?_ <;> conv=>whnf)
   |with_reducible exact o1
   |with_reducible exact o2
   |with_reducible exact o3
   |with_reducible exact o4
   |with_reducible exact o5
   |with_reducible exact o6
   |fail
 all_goals try first
  |exact True.intro
  |exact True
 all_goals
  (refine oP (hF) ?_; conv=>whnf)
  (refine oP (hR) ?_; conv=>whnf)
  refine cmpT rfl ?_
  conv=>whnf
  (refine oP (h1) ?_; conv=>whnf)
  (refine oP (h2) ?_; conv=>whnf)
  (refine oP (hs) ?_; conv=>whnf)
  exact ⟨rfl, rfl⟩
end Go.Proofs.YtnjggjhkfncnlaaGreatDoor
