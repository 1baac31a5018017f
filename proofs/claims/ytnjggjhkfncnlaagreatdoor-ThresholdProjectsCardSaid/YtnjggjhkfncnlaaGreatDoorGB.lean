import Derived.Test.YtnjggjhkfncnlaaGreatDoorGC
import Derived.Test.YtnjggjhkfncnlaaGreatDoorW0
set_option linter.unusedVariables false
set_option linter.unusedSimpArgs false
namespace Go.Proofs.YtnjggjhkfncnlaaGreatDoor
set_option maxRecDepth 100000
set_option maxHeartbeats 16000000
theorem cnt_b {p : Pro} {s : Siz} {c : Cfg} (h : Rdy p s c) {m : Int} (hm : 0 ≤ m ∧ m < p.messages.length) :
  (0 ≤ c.sent.getD m.toNat 0 ∧ c.sent.getD m.toNat 0 ≤ 1048576) ∧ (0 ≤ c.faulty.getD m.toNat 0 ∧ c.faulty.getD m.toNat 0 ≤ 1048576) ∧ (0 ≤ s.f ∧ s.f ≤ 8) ∧ (0 ≤ cntN p s c m ∧ cntN p s c m ≤ 2097152):=by
 have h1:=h.vc.snl
 have h2:=h.vc.fal
 have a:=h.sent.1 m.toNat (by omega)
 have b:=h.sent.2 m.toNat (by omega)
 have hz:=h.sz
 refine ⟨by omega, by omega, by omega, ?_⟩
 unfold cntN
 split
 ·omega
 ·split <;> omega
theorem countingG (p : Pro) (s : Siz) (c : Cfg) (h : Rdy p s c) (m : Int) (hm : 0 ≤ m ∧ m < p.messages.length) : PSpec Tryz.prog 70 [.agg (encP p), .agg (encZ s), .agg (encC c), .int .i64 m] (fun u=>u = .int .i64 (cntN p s c m)):=by
 obtain ⟨b1, b2, b3, b4⟩:=cnt_b h hm
 have h1:=h.vc.snl
 have h2:=h.vc.fal
 refine PSpec.intro tt_ok mx_ok Tryz.func70 rfl (by decide) ?_; (conv=>whnf)
 refine boxP rfl ?_
 conv=>whnf
 refine boxP rfl ?_
 conv=>whnf
 refine boxP rfl ?_
 conv=>whnf
 refine nI ?_
 conv=>whnf
 refine cmpI ?_ ?_ <;> (intro k1; conv=>whnf)
 all_goals repeat' (first | (refine nI ?_; conv=>whnf) | (refine aI ?_; conv=>whnf) | (refine cmpI ?_ ?_ <;> (intro _; conv=>whnf)) | fail)
 all_goals
  refine ⟨avI ?_, rfl⟩
  unfold cntN
  (repeat' split) <;> omega
theorem unlockedG (p : Pro) (s : Siz) (c : Cfg) (hp : okP p) (h : Rdy p s c) : PSpec Tryz.prog 19 [.agg (encP p), .agg (encZ s), .agg (encC c)] (fun u=>u = .sl 0 encI (unlL p s c (thrL p.rules).length)):=by
 have hv:=h.val
 have hT:=(vld_of hv).thr
 refine PSpec.intro tt_ok mx_ok Tryz.func19 rfl (by decide) ?_; (conv=>whnf)
 refine boxP rfl ?_
 conv=>whnf
 refine boxP rfl ?_
 conv=>whnf
 refine boxP rfl ?_
 conv=>whnf
 (refine oP (thresholdsT p hp hv) ?_; conv=>whnf)
 refine WPc.loopF tt_ok mx_ok (fun i : Nat=>i ≤ (thrL p.rules).length) (fun i=>[(21, .int .i64 (i : Int)), (7, .row 1000 (unlL p s c i).length 1)]) (fun i=>[(1000, .row 3 0 encI (unlL p s c i))]) (fun i=>(thrL p.rules).length - i) 0 (Nat.zero_le _) ?_; conv=>whnf
 refine ⟨Sub.by_ [(1000, .nil 1)] _ 400 rfl (auto_) (auto_), ?_⟩
 rintro i hi
 have hul:=unlL_len p s c i
 conv=>whnf
 refine cmpI ?_ ?_ <;> (intro k1; conv=>whnf)
 ·skip
  have hil : i < (thrL p.rules).length:=by omega
  have ht:=thr_ok hv (mem_getD thr0 hil)
  obtain ⟨c1, c2, c3, b4⟩:=cnt_b h ht.1
  have hsl:=h.vc.snl
  have hfl:=h.vc.fal
  have hub : unlB p s c i ↔ evalL ((thrL p.rules).getD i thr0).bound s ≤ ((thrL p.rules).getD i thr0).coef * cntN p s c ((thrL p.rules).getD i thr0).message:=Iff.rfl
  have hm1 : ((thrL p.rules).getD i thr0).coef * cntN p s c ((thrL p.rules).getD i thr0).message ≤ 100 * 2097152:=Int.mul_le_mul (by omega) (by omega) (by omega) (by omega)
  have hm0 : 0 ≤ ((thrL p.rules).getD i thr0).coef * cntN p s c ((thrL p.rules).getD i thr0).message:=Int.mul_nonneg (by omega) (by omega)
  have hup : unlL p s c (i + 1) = if unlB p s c i then unlL p s c i ++ [(i : Int)] else unlL p s c i:=rfl
  have hE:=evaluateF ((thrL p.rules).getD i thr0).bound s ht.2.2 h.siz
  have hC:=countingG p s c h ((thrL p.rules).getD i thr0).message ht.1
  refine nI ?_
  rw [tN]
  conv=>whnf
  (refine oP (hE) ?_; conv=>whnf)
  first | refine dI ?_ | refine drawO (by decide +kernel) ?_
  conv=>whnf
  (refine oC (hC) ?_; conv=>whnf)
  refine aI ?_
  conv=>whnf
  refine cmpI ?_ ?_ <;> (intro k2; conv=>whnf)
  ·refine appI [(i : Int)] rfl lI ?_
   conv=>whnf
   repeat' ((first|refine nI ?_|refine aI ?_|refine arU trivial (by omega) ?_|refine arB trivial (by omega) ?_|refine dI ?_|refine dR ?_|refine dP ?_|refine boxP rfl ?_|refine pI _ rfl ?_|refine rowSetI _ rfl ?_|refine tI ?_|refine fI ?_|refine cmpI (fun _=>?_) (fun _=>?_)) <;> conv=>whnf)
   refine ⟨i + 1, ?_, by omega, by dsimp only; omega⟩
   dsimp only
   rw [hup, if_pos (hub.2 (by omega))]
   exact Sub.by_ [(1000, .old 47)] _ 400 rfl (auto_) (auto_)
  ·repeat' ((first|refine nI ?_|refine aI ?_|refine arU trivial (by omega) ?_|refine arB trivial (by omega) ?_|refine dI ?_|refine dR ?_|refine dP ?_|refine boxP rfl ?_|refine pI _ rfl ?_|refine rowSetI _ rfl ?_|refine tI ?_|refine fI ?_|refine cmpI (fun _=>?_) (fun _=>?_)) <;> conv=>whnf)
   refine ⟨i + 1, ?_, by omega, by dsimp only; omega⟩
   dsimp only
   rw [hup, if_neg (fun hh=>k2 (by have:=hub.1 hh; omega))]
   exact Sub.by_ [(1000, .old 1000)] _ 400 rfl (auto_) (auto_)
 ·obtain rfl : i = (thrL p.rules).length:=by omega
  exact ⟨rfl, rfl⟩
theorem unlockedH (p : Pro) (s : Siz) (c : Cfg) (hp : okP p) (h : Rdy p s c) : PSpec Tryz.prog 26 [.agg (encP p), .agg (encZ s), .agg (encC c)] (fun u=>u = .sl 0 encI (unlL p s c (thrL p.rules).length)):=by
 have hv:=h.val
 have hT:=(vld_of hv).thr
 refine PSpec.intro tt_ok mx_ok Tryz.func26 rfl (by decide) ?_; (conv=>whnf)
 refine boxP rfl ?_
 conv=>whnf
 refine boxP rfl ?_
 conv=>whnf
 refine boxP rfl ?_
 conv=>whnf
 (refine oP (thresholdsT_R p hp hv) ?_; conv=>whnf)
 refine WPc.loopF tt_ok mx_ok (fun i : Nat=>i ≤ (thrL p.rules).length) (fun i=>[(10, .int .i64 (i : Int)), (9, .row 1000 (unlL p s c i).length 1)]) (fun i=>[(1000, .row 3 0 encI (unlL p s c i))]) (fun i=>(thrL p.rules).length - i) 0 (Nat.zero_le _) ?_; conv=>whnf
 refine ⟨Sub.by_ [(1000, .nil 1)] _ 400 rfl (auto_) (auto_), ?_⟩
 rintro i hi
 have hul:=unlL_len p s c i
 conv=>whnf
 refine cmpI ?_ ?_ <;> (intro k1; conv=>whnf)
 ·skip
  have hil : i < (thrL p.rules).length:=by omega
  have ht:=thr_ok hv (mem_getD thr0 hil)
  obtain ⟨c1, c2, c3, b4⟩:=cnt_b h ht.1
  have hsl:=h.vc.snl
  have hfl:=h.vc.fal
  have hub : unlB p s c i ↔ evalL ((thrL p.rules).getD i thr0).bound s ≤ ((thrL p.rules).getD i thr0).coef * cntN p s c ((thrL p.rules).getD i thr0).message:=Iff.rfl
  have hm1 : ((thrL p.rules).getD i thr0).coef * cntN p s c ((thrL p.rules).getD i thr0).message ≤ 100 * 2097152:=Int.mul_le_mul (by omega) (by omega) (by omega) (by omega)
  have hm0 : 0 ≤ ((thrL p.rules).getD i thr0).coef * cntN p s c ((thrL p.rules).getD i thr0).message:=Int.mul_nonneg (by omega) (by omega)
  have hup : unlL p s c (i + 1) = if unlB p s c i then unlL p s c i ++ [(i : Int)] else unlL p s c i:=rfl
  have hE:=evaluateR ((thrL p.rules).getD i thr0).bound s ht.2.2 h.siz
  first | refine dI ?_ | refine drawO (by decide +kernel) ?_
  conv=>whnf
  refine nI ?_
  rw [tN]
  conv=>whnf
  refine nI ?_
  conv=>whnf
  refine dC (withholdingR p) (fun _=>?_) (fun _=>?_) <;> (conv=>whnf)
  ·rename_i hw
   have hw' : p.fault = 1 ∨ p.fault = 2:=hw
   have e : cntN p s c ((thrL p.rules).getD i thr0).message = c.sent.getD ((thrL p.rules).getD i thr0).message.toNat 0 + c.faulty.getD ((thrL p.rules).getD i thr0).message.toNat 0:=by unfold cntN; rw [if_pos hw']
   rw [e] at hub hm1 hm0
   first | refine dI ?_ | refine drawO (by decide +kernel) ?_
   conv=>whnf
   refine nI ?_
   rw [tN]
   conv=>whnf
   refine nI ?_
   conv=>whnf
   refine aI ?_
   conv=>whnf
   refine fI ?_
   conv=>whnf
   first | refine dI ?_ | refine drawO (by decide +kernel) ?_
   conv=>whnf
   refine nI ?_
   rw [tN]
   conv=>whnf
   (refine oC (hE) ?_; conv=>whnf)
   refine nI ?_
   rw [tN]
   conv=>whnf
   refine aI ?_
   conv=>whnf
   refine cmpI ?_ ?_ <;> (intro k2; conv=>whnf)
   ·refine appI [(i : Int)] rfl lI ?_
    conv=>whnf
    repeat' ((first|refine nI ?_|refine aI ?_|refine arU trivial (by omega) ?_|refine arB trivial (by omega) ?_|refine dI ?_|refine dR ?_|refine dP ?_|refine boxP rfl ?_|refine pI _ rfl ?_|refine rowSetI _ rfl ?_|refine tI ?_|refine fI ?_|refine cmpI (fun _=>?_) (fun _=>?_)) <;> conv=>whnf)
    refine ⟨i + 1, ?_, by omega, by dsimp only; omega⟩
    dsimp only
    rw [hup, if_pos (hub.2 (by omega))]
    exact Sub.by_ [(1000, .old 76)] _ 400 rfl (auto_) (auto_)
   ·repeat' ((first|refine nI ?_|refine aI ?_|refine arU trivial (by omega) ?_|refine arB trivial (by omega) ?_|refine dI ?_|refine dR ?_|refine dP ?_|refine boxP rfl ?_|refine pI _ rfl ?_|refine rowSetI _ rfl ?_|refine tI ?_|refine fI ?_|refine cmpI (fun _=>?_) (fun _=>?_)) <;> conv=>whnf)
    refine ⟨i + 1, ?_, by omega, by dsimp only; omega⟩
    dsimp only
    rw [hup, if_neg (fun hh=>k2 (by have:=hub.1 hh; omega))]
    exact Sub.by_ [(1000, .old 1000)] _ 400 rfl (auto_) (auto_)
  ·rename_i hw
   have hw' : ¬ (p.fault = 1 ∨ p.fault = 2):=hw
   refine cmpI ?_ ?_ <;> (intro k3; conv=>whnf)
   ·have e : cntN p s c ((thrL p.rules).getD i thr0).message = c.sent.getD ((thrL p.rules).getD i thr0).message.toNat 0 + s.f:=by unfold cntN; rw [if_neg hw', if_pos k3]
    rw [e] at hub hm1 hm0
    refine aI ?_
    conv=>whnf
    first | refine dI ?_ | refine drawO (by decide +kernel) ?_
    conv=>whnf
    refine nI ?_
    rw [tN]
    conv=>whnf
    (refine oC (hE) ?_; conv=>whnf)
    refine nI ?_
    rw [tN]
    conv=>whnf
    refine aI ?_
    conv=>whnf
    refine cmpI ?_ ?_ <;> (intro k2; conv=>whnf)
    ·refine appI [(i : Int)] rfl lI ?_
     conv=>whnf
     repeat' ((first|refine nI ?_|refine aI ?_|refine arU trivial (by omega) ?_|refine arB trivial (by omega) ?_|refine dI ?_|refine dR ?_|refine dP ?_|refine boxP rfl ?_|refine pI _ rfl ?_|refine rowSetI _ rfl ?_|refine tI ?_|refine fI ?_|refine cmpI (fun _=>?_) (fun _=>?_)) <;> conv=>whnf)
     refine ⟨i + 1, ?_, by omega, by dsimp only; omega⟩
     dsimp only
     rw [hup, if_pos (hub.2 (by omega))]
     exact Sub.by_ [(1000, .old 76)] _ 400 rfl (auto_) (auto_)
    ·repeat' ((first|refine nI ?_|refine aI ?_|refine arU trivial (by omega) ?_|refine arB trivial (by omega) ?_|refine dI ?_|refine dR ?_|refine dP ?_|refine boxP rfl ?_|refine pI _ rfl ?_|refine rowSetI _ rfl ?_|refine tI ?_|refine fI ?_|refine cmpI (fun _=>?_) (fun _=>?_)) <;> conv=>whnf)
     refine ⟨i + 1, ?_, by omega, by dsimp only; omega⟩
     dsimp only
     rw [hup, if_neg (fun hh=>k2 (by have:=hub.1 hh; omega))]
     exact Sub.by_ [(1000, .old 1000)] _ 400 rfl (auto_) (auto_)
   ·have e : cntN p s c ((thrL p.rules).getD i thr0).message = c.sent.getD ((thrL p.rules).getD i thr0).message.toNat 0:=by unfold cntN; rw [if_neg hw', if_neg k3, Int.add_zero]
    rw [e] at hub hm1 hm0
    first | refine dI ?_ | refine drawO (by decide +kernel) ?_
    conv=>whnf
    refine nI ?_
    rw [tN]
    conv=>whnf
    (refine oC (hE) ?_; conv=>whnf)
    refine nI ?_
    rw [tN]
    conv=>whnf
    refine aI ?_
    conv=>whnf
    refine cmpI ?_ ?_ <;> (intro k2; conv=>whnf)
    ·refine appI [(i : Int)] rfl lI ?_
     conv=>whnf
     repeat' ((first|refine nI ?_|refine aI ?_|refine arU trivial (by omega) ?_|refine arB trivial (by omega) ?_|refine dI ?_|refine dR ?_|refine dP ?_|refine boxP rfl ?_|refine pI _ rfl ?_|refine rowSetI _ rfl ?_|refine tI ?_|refine fI ?_|refine cmpI (fun _=>?_) (fun _=>?_)) <;> conv=>whnf)
     refine ⟨i + 1, ?_, by omega, by dsimp only; omega⟩
     dsimp only
     rw [hup, if_pos (hub.2 (by omega))]
     exact Sub.by_ [(1000, .old 76)] _ 400 rfl (auto_) (auto_)
    ·repeat' ((first|refine nI ?_|refine aI ?_|refine arU trivial (by omega) ?_|refine arB trivial (by omega) ?_|refine dI ?_|refine dR ?_|refine dP ?_|refine boxP rfl ?_|refine pI _ rfl ?_|refine rowSetI _ rfl ?_|refine tI ?_|refine fI ?_|refine cmpI (fun _=>?_) (fun _=>?_)) <;> conv=>whnf)
     refine ⟨i + 1, ?_, by omega, by dsimp only; omega⟩
     dsimp only
     rw [hup, if_neg (fun hh=>k2 (by have:=hub.1 hh; omega))]
     exact Sub.by_ [(1000, .old 1000)] _ 400 rfl (auto_) (auto_)
 ·obtain rfl : i = (thrL p.rules).length:=by omega
  exact ⟨rfl, rfl⟩
end Go.Proofs.YtnjggjhkfncnlaaGreatDoor
