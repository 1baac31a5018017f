import Derived.Test.YtkanoljhphmdcaaGreatDoorGC
import Derived.Test.YtkanoljhphmdcaaGreatDoorY1
set_option linter.unusedVariables false
set_option linter.unusedSimpArgs false
namespace Go.Proofs.YtkanoljhphmdcaaGreatDoor
set_option maxRecDepth 100000
set_option maxHeartbeats 16000000
theorem PSpec.nilA {f : FuncId} {R : AV → Prop} (h : ∀ b c, PSpec Tryz.prog f [.val (.slice b 0 c)] R) : PSpec Tryz.prog f [.sl (0 : Int) encI []] R:=by
 simp only [PSpec_iff] at *
 refine ⟨(h none 0).1, fun S F vs w hG hS hF hd hv=>?_⟩
 obtain ⟨v, vs', rfl, hr, hn⟩:=hv.cons_inv
 cases hr with
 |sl _ _ _ base cap sz vals hcap ho hsz hb hnn hvv=>exact (h base cap).2 S F _ w hG hS hF hd (RPs.cons (.val _) hn)
theorem cloneA (l : List Int) (hl : l.length ≤ 1000) : PSpec Tryz.prog 79 [.sl 0 encI l] (fun u=>u = .sl 0 encI l):=by
 by_cases h0 : l = []
 ·subst h0
  refine PSpec.nilA fun b c=>?_
  cases b with
  |none =>
   refine PSpec.sub (R:=fun u=>u = .nilsl) ?_ (by rintro _ rfl; exact ⟨_, rfl, auto_, rfl⟩)
   refine PSpec.intro tt_ok mx_ok Tryz.func79 rfl (by decide) ?_; (conv=>whnf)
   conv=>whnf
   exact ⟨rfl, rfl⟩
  |some ad =>
   refine PSpec.intro tt_ok mx_ok Tryz.func79 rfl (by decide) ?_; (conv=>whnf)
   conv=>whnf
   refine bldI 0 encI [] rfl ?_
   conv=>whnf
   refine appI [] rfl (by simp only [List.length_nil]; omega) ?_
   conv=>whnf
   exact ⟨rfl, rfl⟩
 ·exact cloneIntsT l (List.length_pos_iff.2 h0) hl
theorem copyG (c : Cfg) (hw : wideB c = false) : PSpec Tryz.prog 40 [.agg (encC c)] (fun u=>u = .agg (encC c)):=by
 have hc:=wide_le hw
 have h1:=cloneA c.shape (by omega)
 have h2:=cloneA c.states (by omega)
 have h3:=cloneA c.sent (by omega)
 have h4:=cloneA c.faulty (by omega)
 refine PSpec.intro tt_ok mx_ok Tryz.func40 rfl (by decide) ?_; (conv=>whnf)
 refine boxL ?_
 conv=>whnf
 refine dI ?_
 conv=>whnf
 (refine oC (h1) ?_; conv=>whnf)
 (refine oC (h2) ?_; conv=>whnf)
 (refine oC (h3) ?_; conv=>whnf)
 (refine oC (h4) ?_; conv=>whnf)
 exact ⟨rfl, rfl⟩
theorem copyH (c : Cfg) (hw : wideB c = false) : PSpec Tryz.prog 41 [.agg (encC c)] (fun u=>u = .agg (encC c)):=by
 have hc:=wide_le hw
 refine PSpec.intro tt_ok mx_ok Tryz.func41 rfl (by decide) ?_; (conv=>whnf)
 refine boxP rfl ?_
 conv=>whnf
 refine drawC [1, 2, 5, 6, 8, 9, 11, 12, 15, 16, 18, 19, 20] (by decide +kernel) ?_
 conv=>whnf
 repeat' first
  |exact True.intro
  |(refine bldI 0 encI [] rfl ?_; conv=>whnf)
  |(refine leakN ?_; conv=>whnf)
  |(refine appI c.shape rfl (by simp only [List.length_nil]; omega) ?_; conv=>whnf)
  |(refine appI c.states rfl (by simp only [List.length_nil]; omega) ?_; conv=>whnf)
  |(refine appI c.sent rfl (by simp only [List.length_nil]; omega) ?_; conv=>whnf)
  |(refine appI c.faulty rfl (by simp only [List.length_nil]; omega) ?_; conv=>whnf)
  |(refine And.intro ?_ ?_ <;> conv=>whnf)
  |exact rfl
  |fail
def tkF (l : List Int) (st : Int) : Nat → Nat → Int
 |0, _=>-1
 |n + 1, i=>if l.getD i 0 = st then (i : Int) else tkF l st n (i + 1)
def ftF (c : Cfg) (st : Int) (b : Bool) : Nat → Nat → Int
 |0, _=>-1
 |n + 1, i=>if c.states.getD i 0 = st ∧ decide (c.correct ≤ (i : Int)) = b then (i : Int) else ftF c st b n (i + 1)
theorem ftF_f (c : Cfg) (st : Int) (k : Nat) (hk : c.correct = k) : ∀ n i, k ≤ i + n → ftF c st false n i = tkF c.states st (k - i) i
 |0, i, h=>by rw [show k - i = 0 by omega]; rfl
 |n + 1, i, h=>by
  have ih:=ftF_f c st k hk n (i + 1) (by omega)
  unfold ftF
  by_cases hi : i < k
  ·have e : k - i = (k - (i + 1)) + 1:=by omega
   rw [e, ih]
   show _ = if c.states.getD i 0 = st then (i : Int) else tkF c.states st (k - (i + 1)) (i + 1)
   have hd : decide (c.correct ≤ (i : Int)) = false:=decide_eq_false (by omega)
   by_cases hs : c.states.getD i 0 = st
   ·rw [if_pos ⟨hs, hd⟩, if_pos hs]
   ·rw [if_neg (fun h=>hs h.1), if_neg hs]
  ·have hd : decide (c.correct ≤ (i : Int)) = true:=decide_eq_true (by omega)
   rw [if_neg (fun h=>by rw [hd] at h; exact absurd h.2 (by decide)), ih, show k - (i + 1) = 0 by omega, show k - i = 0 by omega]
   rfl
theorem ftF_t2 (c : Cfg) (st : Int) (k : Nat) (hk : c.correct = k) : ∀ n i, k ≤ i → ftF c st true n i = tkF c.states st n i
 |0, i, h=>rfl
 |n + 1, i, h=>by
  have ih:=ftF_t2 c st k hk n (i + 1) (by omega)
  unfold ftF tkF
  have hd : decide (c.correct ≤ (i : Int)) = true:=decide_eq_true (by omega)
  rw [ih]
  by_cases hs : c.states.getD i 0 = st
  ·rw [if_pos ⟨hs, hd⟩, if_pos hs]
  ·rw [if_neg (fun h=>hs h.1), if_neg hs]
theorem ftF_t (c : Cfg) (st : Int) (k : Nat) (hk : c.correct = k) : ∀ n i, i ≤ k → k ≤ i + n → ftF c st true n i = tkF c.states st (i + n - k) k
 |0, i, h, h2=>by rw [show i + 0 - k = 0 by omega]; rfl
 |n + 1, i, h, h2=>by
  by_cases e : i = k
  ·subst e
   rw [ftF_t2 c st i hk _ _ (Nat.le_refl _), Nat.add_sub_cancel_left]
  ·have ih:=ftF_t c st k hk n (i + 1) (by omega) (by omega)
   unfold ftF
   have hd : decide (c.correct ≤ (i : Int)) = false:=decide_eq_false (by omega)
   rw [if_neg (fun h=>by rw [hd] at h; exact absurd h.2 (by decide)), ih, show i + 1 + n - k = i + (n + 1) - k by omega]
theorem takerG (c : Cfg) (st : Int) (lo hi : Nat) (hh : hi ≤ c.states.length) (hb : hi ≤ 1000000) : PSpec Tryz.prog 117 [.agg (encC c), .int .i64 st, .int .i64 (lo : Int), .int .i64 (hi : Int)] (fun u=>u = .int .i64 (tkF c.states st (hi - lo) lo)):=by
 refine PSpec.intro tt_ok mx_ok Tryz.func117 rfl (by decide) ?_; (conv=>whnf)
 refine boxP rfl ?_
 conv=>whnf
 refine WPc.loopF tt_ok mx_ok (fun i : Nat=>lo ≤ i ∧ tkF c.states st (hi - lo) lo = tkF c.states st (hi - i) i) (fun i=>[(9, .int .i64 (i : Int))]) (fun _=>[]) (fun i=>hi - i) lo ⟨Nat.le_refl _, rfl⟩ ?_; conv=>whnf
 refine ⟨sI, ?_⟩
 rintro i ⟨h1, h2⟩
 conv=>whnf
 refine cmpI ?_ ?_ <;> (intro g1; conv=>whnf)
 ·have hil : i < hi:=by omega
  have e : hi - i = (hi - (i + 1)) + 1:=by omega
  have e2 : tkF c.states st (hi - i) i = if c.states.getD i 0 = st then (i : Int) else tkF c.states st (hi - (i + 1)) (i + 1):=by rw [e]; rfl
  refine nI ?_
  rw [tN]
  conv=>whnf
  refine cmpI ?_ ?_ <;> (intro g2; conv=>whnf)
  ·exact ⟨avI (by rw [h2, e2, if_pos g2]), rfl⟩
  ·repeat' ((first|refine nI ?_|refine aI ?_|refine arU trivial (by omega) ?_|refine arB trivial (by omega) ?_|refine dI ?_|refine dR ?_|refine dP ?_|refine boxP rfl ?_|refine pI _ rfl ?_|refine rowSetI _ rfl ?_|refine tI ?_|refine fI ?_|refine cmpI (fun _=>?_) (fun _=>?_)) <;> conv=>whnf)
   exact ⟨i + 1, sI, ⟨by omega, by rw [h2, e2, if_neg g2]⟩, by dsimp only; omega⟩
 ·exact ⟨avI (by rw [h2, show hi - i = 0 by omega]; rfl), rfl⟩
theorem firstG (c : Cfg) (st : Int) (b : Bool) (hb : c.states.length ≤ 1000000) : PSpec Tryz.prog 42 [.agg (encC c), .int .i64 st, .bool b] (fun u=>u = .int .i64 (ftF c st b c.states.length 0)):=by
 refine PSpec.intro tt_ok mx_ok Tryz.func42 rfl (by decide) ?_; (conv=>whnf)
 refine boxP rfl ?_
 conv=>whnf
 refine WPc.loopF tt_ok mx_ok (fun i : Nat=>i ≤ c.states.length ∧ ftF c st b c.states.length 0 = ftF c st b (c.states.length - i) i) (fun i=>[(7, .int .i64 (i : Int))]) (fun _=>[]) (fun i=>c.states.length - i) 0 ⟨Nat.zero_le _, rfl⟩ ?_; conv=>whnf
 refine ⟨sI, ?_⟩
 rintro i ⟨h1, h2⟩
 conv=>whnf
 refine cmpI ?_ ?_ <;> (intro g1; conv=>whnf)
 ·have hil : i < c.states.length:=by omega
  have e : c.states.length - i = (c.states.length - (i + 1)) + 1:=by omega
  have e2 : ftF c st b (c.states.length - i) i = if c.states.getD i 0 = st ∧ decide (c.correct ≤ (i : Int)) = b then (i : Int) else ftF c st b (c.states.length - (i + 1)) (i + 1):=by rw [e]; rfl
  clear e
  refine nI ?_
  rw [tN]
  conv=>whnf
  refine cmpI ?_ ?_ <;> (intro g2; conv=>whnf)
  ·refine cmpI (fun g3=>?_) (fun g3=>?_) <;> cases b <;> conv=>whnf
   ·repeat' ((first|refine nI ?_|refine aI ?_|refine arU trivial (by omega) ?_|refine arB trivial (by omega) ?_|refine dI ?_|refine dR ?_|refine dP ?_|refine boxP rfl ?_|refine pI _ rfl ?_|refine rowSetI _ rfl ?_|refine tI ?_|refine fI ?_|refine cmpI (fun _=>?_) (fun _=>?_)) <;> conv=>whnf)
    exact ⟨i + 1, sI, ⟨by omega, by rw [h2, e2, if_neg (fun h=>by rw [decide_eq_true g3] at h; exact absurd h.2 (by decide))]⟩, by dsimp only; omega⟩
   ·exact ⟨avI (by rw [h2, e2, if_pos ⟨g2, decide_eq_true g3⟩]), rfl⟩
   ·exact ⟨avI (by rw [h2, e2, if_pos ⟨g2, decide_eq_false g3⟩]), rfl⟩
   ·repeat' ((first|refine nI ?_|refine aI ?_|refine arU trivial (by omega) ?_|refine arB trivial (by omega) ?_|refine dI ?_|refine dR ?_|refine dP ?_|refine boxP rfl ?_|refine pI _ rfl ?_|refine rowSetI _ rfl ?_|refine tI ?_|refine fI ?_|refine cmpI (fun _=>?_) (fun _=>?_)) <;> conv=>whnf)
    exact ⟨i + 1, sI, ⟨by omega, by rw [h2, e2, if_neg (fun h=>by rw [decide_eq_false g3] at h; exact absurd h.2 (by decide))]⟩, by dsimp only; omega⟩
  ·repeat' ((first|refine nI ?_|refine aI ?_|refine arU trivial (by omega) ?_|refine arB trivial (by omega) ?_|refine dI ?_|refine dR ?_|refine dP ?_|refine boxP rfl ?_|refine pI _ rfl ?_|refine rowSetI _ rfl ?_|refine tI ?_|refine fI ?_|refine cmpI (fun _=>?_) (fun _=>?_)) <;> conv=>whnf)
   exact ⟨i + 1, sI, ⟨by omega, by rw [h2, e2, if_neg (fun h=>g2 h.1)]⟩, by dsimp only; omega⟩
 ·exact ⟨avI (by rw [h2, show c.states.length - i = 0 by omega]; rfl), rfl⟩
def stpZ : Stp:=⟨0, 0, 0⟩
noncomputable def aplE (p : Pro) (s : Siz) (c : Cfg) (x : Stp) : Int :=
 if vconE p s c ≠ 0 then vconE p s c else if ¬ enB p s c x false then 9 else if ¬ apB c (rulX p x) x then 4 else 0
theorem aplE_ok {p : Pro} {s : Siz} {c : Cfg} {x : Stp} (h : aplE p s c x = 0) : aplA p s c x = .tup [.agg (encC (apC c (rulX p x) x)), .int .i64 0] ∧ enB p s c x false ∧ apB c (rulX p x) x:=by
 unfold aplE at h
 unfold aplA
 by_cases h1 : vconE p s c ≠ 0
 ·rw [if_pos h1] at h; exact absurd h h1
 rw [if_neg h1] at h ⊢
 by_cases h2 : ¬ enB p s c x false
 ·rw [if_pos h2] at h; omega
 rw [if_neg h2] at h ⊢
 by_cases h3 : ¬ apB c (rulX p x) x
 ·rw [if_pos h3] at h; omega
 rw [if_neg h3]
 exact ⟨rfl, Classical.not_not.1 h2, Classical.not_not.1 h3⟩
theorem aplE_no {p : Pro} {s : Siz} {c : Cfg} {x : Stp} (h : aplE p s c x ≠ 0) : aplA p s c x = .tup [.agg (encC cfg0), .int .i64 (aplE p s c x)]:=by
 unfold aplE at h ⊢
 unfold aplA
 by_cases h1 : vconE p s c ≠ 0
 ·rw [if_pos h1, if_pos h1]
 rw [if_neg h1] at h ⊢
 rw [if_neg h1]
 by_cases h2 : ¬ enB p s c x false
 ·rw [if_pos h2, if_pos h2]
 rw [if_neg h2] at h ⊢
 rw [if_neg h2]
 by_cases h3 : ¬ apB c (rulX p x) x
 ·rw [if_pos h3, if_pos h3]
 ·rw [if_neg h3] at h; exact absurd rfl h
def srcR (p : Pro) (ri : Int) : Int:=(p.rules.getD ri.toNat rul0).src
noncomputable def accR (p : Pro) (s : Siz) (ri : Int) (lo hi : Nat) : Nat → Cfg → List Stp → Cfg × List Stp × Int
 |0, c, xs=>(c, xs, 0)
 |n + 1, c, xs =>
  if tkF c.states (srcR p ri) (hi - lo) lo < 0 then (cfg0, [], 9)
  else if aplE p s c ⟨ri, tkF c.states (srcR p ri) (hi - lo) lo, -1⟩ ≠ 0 then (cfg0, [], aplE p s c ⟨ri, tkF c.states (srcR p ri) (hi - lo) lo, -1⟩)
  else accR p s ri lo hi n (apC c (p.rules.getD ri.toNat rul0) ⟨ri, tkF c.states (srcR p ri) (hi - lo) lo, -1⟩) (xs ++ [⟨ri, tkF c.states (srcR p ri) (hi - lo) lo, -1⟩])
def preR (xs : List Stp) (R : Cfg × List Stp × Int) : Cfg × List Stp × Int:=if R.2.2 = 0 then (R.1, xs ++ R.2.1, 0) else (cfg0, [], R.2.2)
theorem accR_pre (p : Pro) (s : Siz) (ri : Int) (lo hi : Nat) : ∀ n c xs ys, accR p s ri lo hi n c (xs ++ ys) = preR xs (accR p s ri lo hi n c ys)
 |0, c, xs, ys=>rfl
 |n + 1, c, xs, ys=>by
  unfold accR
  by_cases h1 : tkF c.states (srcR p ri) (hi - lo) lo < 0
  ·rw [if_pos h1, if_pos h1]; rfl
  rw [if_neg h1, if_neg h1]
  by_cases h2 : aplE p s c ⟨ri, tkF c.states (srcR p ri) (hi - lo) lo, -1⟩ ≠ 0
  ·rw [if_pos h2, if_pos h2]; unfold preR; rw [if_neg h2]
  rw [if_neg h2, if_neg h2, List.append_assoc, accR_pre p s ri lo hi n]
theorem rdy_apl {p : Pro} {s : Siz} {c : Cfg} {ri i : Int} (h : Rdy p s c) (he : aplE p s c ⟨ri, i, -1⟩ = 0) : Rdy p s (apC c (p.rules.getD ri.toNat rul0) ⟨ri, i, -1⟩):=by
 obtain ⟨_, a, b⟩:=aplE_ok he
 exact h.next a b
theorem accR_ok (p : Pro) (s : Siz) (ri : Int) (lo hi : Nat) : ∀ n c xs, Rdy p s c →
  ((accR p s ri lo hi n c xs).2.2 = 0 ∧ Rdy p s (accR p s ri lo hi n c xs).1 ∧ (accR p s ri lo hi n c xs).1.states.length = c.states.length ∧ (accR p s ri lo hi n c xs).1.correct = c.correct ∧ (accR p s ri lo hi n c xs).2.1.length = xs.length + n) ∨
  ((accR p s ri lo hi n c xs).2.2 ≠ 0 ∧ (accR p s ri lo hi n c xs).1 = cfg0 ∧ (accR p s ri lo hi n c xs).2.1 = [])
 |0, c, xs, h=>.inl ⟨rfl, h, rfl, rfl, rfl⟩
 |n + 1, c, xs, h=>by
  unfold accR
  by_cases h1 : tkF c.states (srcR p ri) (hi - lo) lo < 0
  ·rw [if_pos h1]; exact .inr ⟨by decide, rfl, rfl⟩
  rw [if_neg h1]
  by_cases h2 : aplE p s c ⟨ri, tkF c.states (srcR p ri) (hi - lo) lo, -1⟩ ≠ 0
  ·rw [if_pos h2]; exact .inr ⟨h2, rfl, rfl⟩
  rw [if_neg h2]
  have h2:=Classical.not_not.1 h2
  have ih:=accR_ok p s ri lo hi n _ (xs ++ [⟨ri, tkF c.states (srcR p ri) (hi - lo) lo, -1⟩]) (rdy_apl h h2)
  rw [List.length_append, List.length_singleton] at ih
  have hl : (apC c (p.rules.getD ri.toNat rul0) ⟨ri, tkF c.states (srcR p ri) (hi - lo) lo, -1⟩).states.length = c.states.length:=stN_len _ _ _
  rcases ih with ⟨a, b, d, e, f⟩ | ih
  ·exact .inl ⟨a, b, d.trans hl, e, by omega⟩
  ·exact .inr ih
def rptP (R : Cfg × List Stp × Int) (u : AV) (M : Mem) : Prop:=(R.2.2 = 0 ∧ u = .tup [.agg (encC R.1), .row 1000 R.2.1.length 3, .int .i64 0] ∧ M 1000 = some (.row 49 stpZ encX R.2.1)) ∨ (R.2.2 ≠ 0 ∧ u = .tup [.agg cfgN, .nilsl, .int .i64 R.2.2])
theorem repeatG (p : Pro) (s : Siz) (c : Cfg) (hp : okP p) (h : Rdy p s c) (ri : Int) (hr : 0 ≤ ri ∧ ri < p.rules.length) (n : Nat) (hn : n ≤ 8) (lo hi : Nat) (hh : hi ≤ c.states.length) :
  Spec Tryz.prog 78 [.agg (encP p), .agg (encZ s), .agg (encC c), .int .i64 ri, .int .i64 (n : Int), .int .i64 (lo : Int), .int .i64 (hi : Int)] (Mem.ofL []) (rptP (accR p s ri lo hi n c [])):=by
 have hle:=bigP_le h.big
 refine Spec.intro tt_ok mx_ok [] Tryz.func78 rfl (by decide) ?_
 conv=>whnf
 refine boxP rfl ?_
 conv=>whnf
 refine boxP rfl ?_
 conv=>whnf
 refine boxL ?_
 conv=>whnf
 refine WPc.loopF tt_ok mx_ok (fun y : Nat × Cfg × List Stp=>y.1 ≤ n ∧ Rdy p s y.2.1 ∧ y.2.1.states.length = c.states.length ∧ y.2.2.length = y.1 ∧ accR p s ri lo hi n c [] = accR p s ri lo hi (n - y.1) y.2.1 y.2.2) (fun y=>[(22, .int .i64 (y.1 : Int)), (17, .row 1000 y.2.2.length 3)]) (fun y=>[(9, .box 36 (encC y.2.1)), (14, .box 36 cfgN), (1000, .row 49 stpZ encX y.2.2)]) (fun y=>n - y.1) (0, c, []) ⟨Nat.zero_le _, h, rfl, rfl, rfl⟩ ?_; conv=>whnf
 refine ⟨Sub.by_ [(9, .old 9), (14, .old 14), (1000, .nil 3)] _ 400 rfl (auto_) (auto_), ?_⟩
 rintro ⟨k, d, xs⟩ ⟨hk, hd, hl, hx, hE⟩
 dsimp only at hk hd hl hx hE
 have hw:=wide_le hd.wide
 have hcd : okC d:=by unfold okC; omega
 conv=>whnf
 refine cmpI ?_ ?_ <;> (intro g1; conv=>whnf)
 ·have hkn : k < n:=by omega
  have e1 : n - k = (n - (k + 1)) + 1:=by omega
  rw [e1] at hE
  clear e1
  have eA : accR p s ri lo hi (n - (k + 1) + 1) d xs = if tkF d.states (srcR p ri) (hi - lo) lo < 0 then (cfg0, [], 9) else if aplE p s d ⟨ri, tkF d.states (srcR p ri) (hi - lo) lo, -1⟩ ≠ 0 then (cfg0, [], aplE p s d ⟨ri, tkF d.states (srcR p ri) (hi - lo) lo, -1⟩) else accR p s ri lo hi (n - (k + 1)) (apC d (p.rules.getD ri.toNat rul0) ⟨ri, tkF d.states (srcR p ri) (hi - lo) lo, -1⟩) (xs ++ [⟨ri, tkF d.states (srcR p ri) (hi - lo) lo, -1⟩]):=rfl
  rw [eA] at hE
  clear eA
  have hT:=takerG d (srcR p ri) lo hi (by omega) (by omega)
  have hA:=fun i=>ApplyG p s d ⟨ri, i, -1⟩ hp hcd
  generalize tkF d.states (srcR p ri) (hi - lo) lo = i at hE hT
  have hA:=hA i
  refine dI ?_
  conv=>whnf
  refine nI ?_
  conv=>whnf
  (refine oC (hT) ?_; conv=>whnf)
  refine cmpI ?_ ?_ <;> (intro g2; conv=>whnf)
  ·rw [if_pos g2] at hE
   rw [hE]
   exact .inr ⟨by decide, rfl⟩
  rw [if_neg g2] at hE
  by_cases h0 : aplE p s d ⟨ri, i, -1⟩ = 0
  rotate_left
  ·rw [if_pos h0] at hE
   rw [aplE_no h0] at hA
   rw [hE]
   generalize aplE p s d ⟨ri, i, -1⟩ = e at h0 hA
   (refine oP (hA) ?_; conv=>whnf)
   refine cmpT h0 ?_
   conv=>whnf
   exact .inr ⟨h0, rfl⟩
  rw [if_neg (fun y=>y h0)] at hE
  obtain ⟨eA, q1, q2⟩:=aplE_ok h0
  have hrx:=rdy_apl hd h0
  have hlx : (apC d (p.rules.getD ri.toNat rul0) ⟨ri, i, -1⟩).states.length = d.states.length:=stN_len _ _ _
  rw [eA] at hA
  have eR : rulX p ⟨ri, i, -1⟩ = p.rules.getD ri.toNat rul0:=rfl
  rw [eR] at hA
  generalize apC d (p.rules.getD ri.toNat rul0) ⟨ri, i, -1⟩ = d' at hA hE hrx hlx
  (refine oP (hA) ?_; conv=>whnf)
  refine fI ?_
  conv=>whnf
  refine drawE ?_
  conv=>whnf
  repeat' first
   |exact True.intro
   |(refine bldI stpZ encX [⟨ri, i, -1⟩] rfl ?_; conv=>whnf)
   |(refine leakN ?_; conv=>whnf)
   |(refine appI [⟨ri, i, -1⟩] rfl lI ?_; conv=>whnf)
   |(refine aI ?_; conv=>whnf)
   |exact ⟨(k + 1, d', xs ++ [⟨ri, i, -1⟩]), Sub.by_ [(9, .old 9), (14, .old 14), (1000, .old 56)] _ 400 rfl (auto_) (auto_), ⟨by dsimp only; omega, hrx, by dsimp only; omega, by dsimp only; rw [List.length_append, List.length_singleton]; omega, hE⟩, by dsimp only; omega⟩
   |(refine And.intro ?_ ?_ <;> conv=>whnf)
   |fail
 ·obtain rfl : k = n:=by omega
  rw [Nat.sub_self] at hE
  rw [hE]
  exact .inl ⟨rfl, rfl, rfl⟩
noncomputable def accE (p : Pro) (s : Siz) (c : Cfg) (ri : Int) (n m : Nat) : Cfg × List Stp × Int :=
 if (accR p s ri 0 c.correct.toNat n c []).2.2 ≠ 0 then (cfg0, [], (accR p s ri 0 c.correct.toNat n c []).2.2)
 else accR p s ri c.correct.toNat c.states.length m (accR p s ri 0 c.correct.toNat n c []).1 (accR p s ri 0 c.correct.toNat n c []).2.1
def accV (R : Cfg × List Stp × Int) : AV:=.tup [.agg (encC R.1), .sl stpZ encX R.2.1, .int .i64 R.2.2]
theorem rpt_out {R : Cfg × List Stp × Int} {ℓ : Nat} (h : R.2.2 = 0) : ∀ u M', rptP R u M' → memR [(ℓ, .old 1000)] 400 M' [(ℓ, .row 49 stpZ encX R.2.1)] ∧ avR [(ℓ, .old 1000)] 400 u (.tup [.agg (encC R.1), .row ℓ R.2.1.length 3, .int .i64 0]):=by
 rintro u M' (⟨_, rfl, hM⟩ | ⟨h1, _⟩)
 ·constructor
  ·simp [memR, lmFind, blkR, hM]
  ·simp [avR, avRs, lmFind, encC]
 ·exact absurd h h1
theorem rpt_no {R : Cfg × List Stp × Int} (h : R.2.2 ≠ 0) : ∀ u M', rptP R u M' → memR [] 400 M' [] ∧ avR [] 400 u (.tup [.agg cfgN, .nilsl, .int .i64 R.2.2]):=by
 rintro u M' (⟨h1, _⟩ | ⟨_, rfl⟩)
 ·exact absurd h1 h
 ·exact ⟨trivial, auto_⟩
theorem accelG (p : Pro) (s : Siz) (c : Cfg) (hp : okP p) (h : Rdy p s c) (ri : Int) (hr : 0 ≤ ri ∧ ri < p.rules.length) (n m : Nat) (hn : n ≤ 8) (hm : m ≤ 8) :
  PSpec Tryz.prog 39 [.agg (encP p), .agg (encZ s), .agg (encC c), .int .i64 ri, .int .i64 (n : Int), .int .i64 (m : Int)] (fun u=>u = accV (accE p s c ri n m)):=by
 have hcor:=h.vc.cor
 have hlen:=h.vc.len
 have hsz:=h.sz
 have hmod : s.n - s.f ≤ modN p s:=by unfold modN; split <;> omega
 have hw:=wide_le h.wide
 have hA:=repeatG p s c hp h ri hr n hn 0 c.correct.toNat (by omega)
 have kA:=accR_ok p s ri 0 c.correct.toNat n c [] h
 have eC : ((c.correct.toNat : Nat) : Int) = c.correct:=Int.toNat_of_nonneg (by omega)
 rw [eC] at hA
 unfold accE
 generalize accR p s ri 0 c.correct.toNat n c [] = A at hA kA ⊢
 rcases kA with ⟨a1, a2, a3, a4, a5⟩ | ⟨a1, a2, a3⟩
 rotate_left
 ·rw [if_pos a1]
  have hA1:=rpt_no a1
  generalize A.2.2 = e at a1 hA1
  refine PSpec.sub (R:=fun u=>u = .tup [.agg cfgN, .nilsl, .int .i64 e]) ?_ (by rintro _ rfl; exact ⟨_, rfl, auto_, rfl⟩)
  refine PSpec.intro tt_ok mx_ok Tryz.func39 rfl (by decide) ?_; (conv=>whnf)
  refine boxP rfl ?_
  conv=>whnf
  refine boxP rfl ?_
  conv=>whnf
  refine boxP rfl ?_
  conv=>whnf
  refine Spec.news 400 [] [] (.tup [.agg cfgN, .nilsl, .int .i64 e]) hA (auto_) rfl hA1 ?_
  conv=>whnf
  refine cmpT a1 ?_
  conv=>whnf
  exact ⟨rfl, rfl⟩
 rw [if_neg (fun y=>y a1)]
 have hB:=repeatG p s A.1 hp a2 ri hr m hm c.correct.toNat c.states.length (by omega)
 have kB:=accR_ok p s ri c.correct.toNat c.states.length m A.1 [] a2
 have eB:=accR_pre p s ri c.correct.toNat c.states.length m A.1 A.2.1 []
 rw [List.append_nil] at eB
 rw [eB, eC] at *
 clear eB
 have hA0:=rpt_out (ℓ:=1001) a1
 generalize accR p s ri c.correct.toNat c.states.length m A.1 [] = B at hB kB ⊢
 obtain ⟨d, xs, e⟩:=A
 dsimp only at *
 rcases kB with ⟨b1, b2, b3, b4, b5⟩ | ⟨b1, b2, b3⟩
 rotate_left
 ·have hB1:=rpt_no b1
  unfold preR
  rw [if_neg b1]
  generalize B.2.2 = f at b1 hB1
  refine PSpec.sub (R:=fun u=>u = .tup [.agg cfgN, .nilsl, .int .i64 f]) ?_ (by rintro _ rfl; exact ⟨_, rfl, auto_, rfl⟩)
  refine PSpec.intro tt_ok mx_ok Tryz.func39 rfl (by decide) ?_; (conv=>whnf)
  refine boxP rfl ?_
  conv=>whnf
  refine boxP rfl ?_
  conv=>whnf
  refine boxP rfl ?_
  conv=>whnf
  refine Spec.news 400 [(1001, .old 1000)] [(1001, .row 49 stpZ encX xs)] (.tup [.agg (encC d), .row 1001 xs.length 3, .int .i64 0]) hA (auto_) rfl hA0 ?_
  conv=>whnf
  refine fI ?_
  conv=>whnf
  refine Spec.news 400 [] [] (.tup [.agg cfgN, .nilsl, .int .i64 f]) hB (auto_) rfl hB1 ?_
  conv=>whnf
  refine cmpT b1 ?_
  conv=>whnf
  exact ⟨rfl, rfl⟩
 have hB0:=rpt_out (ℓ:=1002) b1
 unfold preR
 rw [if_pos b1]
 obtain ⟨d', ys, f⟩:=B
 dsimp only at *
 refine PSpec.intro tt_ok mx_ok Tryz.func39 rfl (by decide) ?_; (conv=>whnf)
 refine boxP rfl ?_
 conv=>whnf
 refine boxP rfl ?_
 conv=>whnf
 refine boxP rfl ?_
 conv=>whnf
 refine Spec.news 400 [(1001, .old 1000)] [(1001, .row 49 stpZ encX xs)] (.tup [.agg (encC d), .row 1001 xs.length 3, .int .i64 0]) hA (auto_) rfl hA0 ?_
 conv=>whnf
 refine fI ?_
 conv=>whnf
 refine Spec.news 400 [(1002, .old 1000)] [(1002, .row 49 stpZ encX ys)] (.tup [.agg (encC d'), .row 1002 ys.length 3, .int .i64 0]) hB (auto_) rfl hB0 ?_
 conv=>whnf
 refine fI ?_
 conv=>whnf
 refine drawC [1, 2] (by decide +kernel) ?_
 conv=>whnf
 repeat' first
  |exact True.intro
  |(refine leakN ?_; conv=>whnf)
  |(refine appI ys rfl (by dsimp only; simp only [List.length_nil] at a5 b5; omega) ?_; conv=>whnf)
  |(refine And.intro ?_ ?_ <;> conv=>whnf)
  |exact rfl
  |fail
noncomputable def accO (p : Pro) (s : Siz) (c : Cfg) (ri n m : Int) : Cfg × List Stp × Int :=
 if vldE p s c ≠ 0 then (cfg0, [], vldE p s c) else if ri < 0 ∨ p.rules.length ≤ ri then (cfg0, [], 6)
 else if n < 0 ∨ 8 < n ∨ m < 0 ∨ 8 < m then (cfg0, [], 1) else accE p s c ri n.toNat m.toNat
theorem AccelG (p : Pro) (s : Siz) (c : Cfg) (hp : okP p) (hc : okC c) (ri n m : Int) : PSpec Tryz.prog 15 [.agg (encP p), .agg (encZ s), .agg (encC c), .int .i64 ri, .int .i64 n, .int .i64 m] (fun u=>u = accV (accO p s c ri n m)):=by
 have hV:=validG p s c hp hc
 unfold accO
 by_cases h1 : vldE p s c ≠ 0
 ·rw [if_pos h1]
  generalize vldE p s c = e at hV h1
  refine PSpec.sub (R:=fun u=>u = .tup [.agg cfgN, .nilsl, .int .i64 e]) ?_ (by rintro _ rfl; exact ⟨_, rfl, auto_, rfl⟩)
  refine PSpec.intro tt_ok mx_ok Tryz.func15 rfl (by decide) ?_; (conv=>whnf)
  refine boxP rfl ?_
  conv=>whnf
  refine boxP rfl ?_
  conv=>whnf
  refine boxP rfl ?_
  conv=>whnf
  (refine oP (hV) ?_; conv=>whnf)
  refine cmpT h1 ?_
  conv=>whnf
  exact ⟨rfl, rfl⟩
 rw [if_neg h1]
 have h1:=Classical.not_not.1 h1
 obtain ⟨k1, k2, k3, h, k5⟩:=vld_ok h1
 by_cases h2 : ri < 0 ∨ p.rules.length ≤ ri
 ·rw [if_pos h2]
  refine PSpec.sub (R:=fun u=>u = .tup [.agg cfgN, .nilsl, .int .i64 6]) ?_ (by rintro _ rfl; exact ⟨_, rfl, auto_, rfl⟩)
  refine PSpec.intro tt_ok mx_ok Tryz.func15 rfl (by decide) ?_; (conv=>whnf)
  refine boxP rfl ?_
  conv=>whnf
  refine boxP rfl ?_
  conv=>whnf
  refine boxP rfl ?_
  conv=>whnf
  (refine oP (hV) ?_; conv=>whnf)
  refine fI ?_
  conv=>whnf
  repeat' (refine cmpI ?_ ?_ <;> (intro _; conv=>whnf))
  all_goals first
   |exact ⟨rfl, rfl⟩
   |omega
 rw [if_neg h2]
 by_cases h3 : n < 0 ∨ 8 < n ∨ m < 0 ∨ 8 < m
 ·rw [if_pos h3]
  refine PSpec.sub (R:=fun u=>u = .tup [.agg cfgN, .nilsl, .int .i64 1]) ?_ (by rintro _ rfl; exact ⟨_, rfl, auto_, rfl⟩)
  refine PSpec.intro tt_ok mx_ok Tryz.func15 rfl (by decide) ?_; (conv=>whnf)
  refine boxP rfl ?_
  conv=>whnf
  refine boxP rfl ?_
  conv=>whnf
  refine boxP rfl ?_
  conv=>whnf
  (refine oP (hV) ?_; conv=>whnf)
  refine fI ?_
  conv=>whnf
  refine fI ?_
  conv=>whnf
  refine fI ?_
  conv=>whnf
  repeat' (refine cmpI ?_ ?_ <;> (intro _; conv=>whnf))
  all_goals first
   |exact ⟨rfl, rfl⟩
   |(exfalso; omega)
 rw [if_neg h3]
 have hK:=copyG c h.wide
 have hA:=accelG p s c hp h ri (by omega) n.toNat m.toNat (by omega) (by omega)
 rw [Int.toNat_of_nonneg (by omega : 0 ≤ n), Int.toNat_of_nonneg (by omega : 0 ≤ m)] at hA
 generalize accE p s c ri n.toNat m.toNat = R at hA
 refine PSpec.intro tt_ok mx_ok Tryz.func15 rfl (by decide) ?_; (conv=>whnf)
 refine boxP rfl ?_
 conv=>whnf
 refine boxP rfl ?_
 conv=>whnf
 refine boxP rfl ?_
 conv=>whnf
 (refine oP (hV) ?_; conv=>whnf)
 refine fI ?_
 conv=>whnf
 refine fI ?_
 conv=>whnf
 refine fI ?_
 conv=>whnf
 refine fI ?_
 conv=>whnf
 refine fI ?_
 conv=>whnf
 refine fI ?_
 conv=>whnf
 refine fI ?_
 conv=>whnf
 refine dI ?_
 conv=>whnf
 (refine oC (hK) ?_; conv=>whnf)
 (refine oC (hA) ?_; conv=>whnf)
 exact ⟨rfl, rfl⟩
end Go.Proofs.YtkanoljhphmdcaaGreatDoor
